/- From the model's code to that of the abstract machine: what 'W' says of the image holds of the code. No condition. -/
import Derived.Test.YtnnbodoijkbceaaGreatDoorIAbs7
import Derived.Deep.LoopGhost
import Derived.ScopeJumps
set_option linter.all false
set_option maxHeartbeats 0
open Iff renaming rfl→zAa
open Option.some renaming injEq→zAb
open Option renaming map_eq_some_iff→zAc,map_some→zBd
open Bool renaming and_eq_true→zAd,false_eq_true→zBe,false_or→zBh,not_eq_true'→zBi,not_true→zBj,or_eq_true→zCf
open List renaming all_eq_true→zAe,getElem?_eq_some_iff→zAf,replicate→zBa,mem_range→zBb,range→zBf,getElem?_set_ne→zBg,getElem?_append_left→zCc,mapM_cons→zCg,mem_append_left→zCh,mem_cons→zCi,getElem?_map→zDc,any_eq_true→zDe,append_nil→zDf,mem_map→zDh
open Array renaming getElem?_eq_some_iff→zAg,replicate→zAh,ext'→zAi,getElem?_append_left→zAj
open Prod.mk renaming injEq→zBc
open Nat renaming zero_le→zCa,le_refl→zCb,sub_zero→zCd,strongRecOn→zCe,lt_or_ge→zDa,lt_of_le_of_lt→zDb,testBit→zDd
open Exists renaming intro→zCj
open Int renaming ofNat_inj→zDg,ofNat_le→zDi,ofNat_lt→zDj
section
namespace Go.Abs
open Go.RowKit
section
variable{P:Program}{N:Nat}{M0:Mem}{B:Bas}{w0:World}{κ:Kap}{M:Mem}{σ:St}{a:Act}{w w':World}
theorem Rel.nilRow(H:Rel N M0 B w0 κ M σ a w){ms:List Po}{e sz:Nat}(hp:σ.h[0]?=some (some (.pool ms)))(hsz:0<sz):∃κ',κ'.row 0 ms.length=.slice none 0 0/\Rel N M0 B w0 κ' M (σ.setP (ms++[.rw e sz []])) a w/\
 (∀v c,XX κ σ.h v c->XX κ' (σ.setP (ms++[.rw e sz []])).h v c)/\rep M (XX κ' (σ.setP (ms++[.rw e sz []])).h) (.q 1 ms.length 0 0 0) (.slice none 0 0):=by
 obtain⟨κ',e2,H',hX⟩:=H.addMem (m':=.rw e sz []) hp (kv:=.slice none 0 0) (Below.refl _ _) (fun g hg=>by cases hg) (fun κ' X er hX=>by
  simp only[fV];exact⟨hsz,by simp,[],by rw[er];exact World.ownsRow_nil w 0 e sz,by simp[aB]⟩)
 have hget:(ms++[Po.rw e sz []])[ms.length]?=some (.rw e sz []):=by simp
 exact⟨κ',e2,H',hX,lN (d4 hp) rfl (by
  simp only[qAt,hget,e2];exact⟨fun _=>⟨by simp,fun _=>trivial⟩,fun h=>by simp at h⟩)⟩
theorem Rel.mat(H:Rel N M0 B w0 κ M σ a w){m:Mat}{σ':St}(h:σ.mat m=some σ'):∃κ' M',Rel N M0 B w0 κ' M' σ' a w:=by
 cases m with
 |r t e sz=>
   simp only[St.mat]at h;split at h
   ·rename_i sz0 hlk
    split at h
    ·rename_i hsz
     cases h
     have ho:aH (upd κ σ.h.length (.slice none 0 0)) M (XX (upd κ σ.h.length (.slice none 0 0)) (σ.h++[some (Ob.arr e sz [])])) B w σ.h.length (.arr e sz []):=by
      simp only[aH];exact⟨hsz,by simp,[],by rw[cQ];exact World.ownsRow_nil w 0 e sz,by simp[ar],fun g hg=>(by rw[aK]at hg;cases hg),fun g=>by rw[aK,bh]⟩
     have H':=H.newOb (Below.refl _ _) (kv:=.slice none 0 0) (fun g hg=>by cases hg) ho
     refine⟨_,_,{ dfr:=H'.dfr,jst:=H'.jst,pin:=H'.pin,size:=H'.size,regs:=?_,heap:=H'.heap,inj:=H'.inj,snd:=H'.snd,sep:=H'.sep,sub:=H'.sub,new:=H'.new,base:=H'.base,blw:=H'.blw }⟩;intro t' v hv;simp only[lk]at hv;split at hv
     ·rename_i he
      subst he;cases hv;obtain⟨h1,c,h2,h3⟩:=H.regs _ _ hlk;simp only[rep]at h3;refine⟨h1,c,h2,?_⟩;simp only[rep,XX];rw[h3.1];refine⟨rfl,by simp,fun e2 sz2 l2 h2=>?_,fun e2 sz2 l2 l3 h2=>by simp at h2,fun o2 h2 hn=>by simp at h2;subst h2;cases hn⟩
      simp at h2;obtain⟨rfl,rfl,rfl⟩:=h2;exact⟨by simp,fun _=>cQ.symm⟩
     ·exact H'.regs t' v hv
    ·cases h
   ·cases h
 |b id off e sz=>
   simp only[St.mat]at h;split at h
   ·rename_i cs hcs
    split at h
    ·rename_i sz0 hoff
     split at h
     ·rename_i hsz
      cases h
      have ho:aH (upd κ σ.h.length (.slice none 0 0)) M (XX (upd κ σ.h.length (.slice none 0 0)) (σ.h++[some (Ob.arr e sz [])])) B w σ.h.length (.arr e sz []):=by
       simp only[aH];exact⟨hsz,by simp,[],by rw[cQ];exact World.ownsRow_nil w 0 e sz,by simp[ar],fun g hg=>(by rw[aK]at hg;cases hg),fun g=>by rw[aK,bh]⟩
      have H':=H.newOb (Below.refl _ _) (kv:=.slice none 0 0) (fun g hg=>by cases hg) ho
      have hb:=iM hcs;have hlt:id<σ.h.length:=(zAf.1 hb).1;have hb':(σ.h++[some (Ob.arr e sz [])])[id]?=some (some (.box cs)):=by rw[zCc hlt];exact hb
      obtain⟨b,arr,T,h1,h2,h3,h4,h5,h6⟩:=H'.heap id _ hb'
      let κ1:=upd κ σ.h.length (.slice none 0 0)
      have hX:∀u c,XX κ1 (σ.h++[some (Ob.arr e sz [])]) u c->XX (upd κ1 id (κ1 id)) ((σ.h++[some (Ob.arr e sz [])]).set id (some (Ob.box (cs.set off (.ref σ.h.length 0))))) u c:=fun u c hx=>iA hb' hx (fun _ _=>⟨⟨cs,rfl⟩,rfl⟩) (fun _ _ _ h=>by cases h) (fun _ _ _ _ h=>by cases h)
      have H2:=H'.setOb hb' (ob:=.box (cs.set off (.ref σ.h.length 0))) (kv:=κ1 id) (Und.refl _ _) (fun _ _ _=>rfl) (fun g hg=>.inl ((h6 g).2 (by rw[h1]at hg;cases hg;rfl))) hX (by
       simp only[aH];refine⟨b,arr,T,by rw[cQ];exact h1,h2,h3,?_,h5,fun g=>by rw[aK,h1];simp only[blk,zAb];exact eq_comm⟩
       obtain⟨c,g1,g2⟩:=cw (aG (fun _ _ h=>h) hX _ _ h4) hoff;simp only[rep]at g2
       have hs:=ul off (aG (fun _ _ h=>h) hX _ _ h4) (v:=.ref σ.h.length 0) (c:=c) (by
        simp only[rep,XX];rw[g2.1];refine⟨rfl,by simp,fun e2 sz2 l2 h2=>?_,fun e2 sz2 l2 l3 h2=>by rw[zBg (by omega)]at h2;simp at h2,fun o2 h2 hn=>by rw[zBg (by omega)]at h2;simp at h2;subst h2;cases hn⟩
        rw[zBg (by omega)]at h2
        simp at h2;obtain⟨rfl,rfl,rfl⟩:=h2;refine⟨by simp,fun _=>?_⟩
        rw[Vt (by omega)]
        exact cQ.symm)
       have:arr.toList.set off c=arr.toList:=by
        apply List.ext_getElem?;intro j;rw[List.getElem?_set];split
        ·rename_i he;subst he
         split
         ·exact g1.symm
         ·rename_i hn;rw[List.getElem?_eq_none (by omega)]
        ·rfl
       rwa[this]at hs)
      refine⟨upd κ1 id (κ1 id),M,?_⟩
      have e1:(σ.h++[some (Ob.arr e sz [])]).set id (some (Ob.box (cs.set off (.ref σ.h.length 0))))=σ.h.set id (some (Ob.box (cs.set off (.ref σ.h.length 0))))++[some (Ob.arr e sz [])]:=by
       rw[List.set_append_left _ _ hlt]
      rw[<-e1];exact H2
     ·cases h
    ·cases h
   ·cases h
 |z t=>
   simp only[St.mat]at h;split at h
   ·rename_i v hv
    split at h
    ·rename_i u hu
     cases h;obtain⟨H2,hM1⟩:=H.kill (aD v) (PO hu);obtain⟨h1,c,h2,h3⟩:=H.regs t v hv
     have k3:rep (ext M w (hO κ (aD v))) NX u c:=by
      refine nK H hM1 (fun id hid g hg p hpb=>?_) h3 hu;unfold ext;rw[if_pos (cA.2 ⟨id,hid,by rw[hpb];exact hg⟩)]
     refine⟨κ,_,{ dfr:=H2.dfr,jst:=H2.jst,pin:=H2.pin,size:=H2.size,regs:=?_,heap:=H2.heap,inj:=H2.inj,snd:=H2.snd,sep:=H2.sep,sub:=H2.sub,new:=H2.new,base:=H2.base,blw:=H2.blw }⟩;intro t' v' hv';simp only[lk]at hv';split at hv'
     ·rename_i he
      subst he;cases hv';exact⟨h1,c,h2,aE k3⟩
     ·exact H2.regs t' v' (by rw[(qv _ _).1];exact hv')
    ·cases h
   ·cases h
 |q t e sz=>
   simp only[St.mat]at h;split at h
   ·rename_i sz0 ms hlk hms
    split at h
    ·rename_i hsz
     cases h;obtain⟨κ',e1,H',hX,hq⟩:=H.nilRow (e:=e) (bW hms) hsz;refine⟨κ',M,{ dfr:=H'.dfr,jst:=H'.jst,pin:=H'.pin,size:=H'.size,regs:=?_,heap:=H'.heap,inj:=H'.inj,snd:=H'.snd,sep:=H'.sep,sub:=H'.sub,new:=H'.new,base:=H'.base,blw:=H'.blw }⟩;intro t' v hv;simp only[lk]at hv;split at hv
     ·rename_i he
      subst he;cases hv;obtain⟨h1,c,h2,h3⟩:=H.regs _ _ hlk;simp only[rep]at h3;exact⟨h1,c,h2,by rw[h3.1];exact hq⟩
     ·exact H'.regs t' v hv
    ·cases h
   ·cases h
 |qb id off e sz=>
   simp only[St.mat]at h;split at h
   ·rename_i cs ms hcs hms
    split at h
    ·rename_i sz0 hoff
     split at h
     ·rename_i hsz
      cases h;obtain⟨κ',e1,H',hX,hq⟩:=H.nilRow (e:=e) (bW hms) hsz;have hb:=iM hcs;have h0:id≠0:=fun e=>by subst e;rw[bW hms]at hb;cases hb
      obtain⟨κ2,H2,_⟩:=H'.reCell (id:=id) (off:=off) (cs:=cs) (v':=.q 1 ms.length 0 0 0) (by rw[acH,zBg (Ne.symm h0)];exact hb) hoff (fun c hc=>by
       simp only[rep]at hc;rw[hc.1];exact hq)
      exact⟨κ2,M,H2⟩
     ·cases h
    ·cases h
   ·cases h
theorem Rel.mats:∀{ms:List Mat}{σ σ':St}{κ:Kap}{M:Mem},Rel N M0 B w0 κ M σ a w->σ.mats ms=some σ'->∃κ' M',Rel N M0 B w0 κ' M' σ' a w
 |[],σ,σ',κ,M,H,h=>by simp only[St.mats]at h;cases h;exact⟨κ,M,H⟩
 |m::ms,σ,σ',κ,M,H,h=>by
   simp only[St.mats]at h;split at h
   ·rename_i σ1 h1
    obtain⟨κ1,M1,H1⟩:=H.mat h1;exact Rel.mats H1 h
   ·cases h
theorem Rel.nrm(H:Rel N M0 B w0 κ M σ a w)(ks:List Nat):∃κ',Rel N M0 B w0 κ' M (σ.nrm ks) a w:=by
 unfold St.nrm;exact⟨_,H.ren (bZ _ _ (bZ _ _ (bZ _ _ lR))) Hl _ (fun t v h=>Ne h)⟩
structure LO (P:Program) (N:Nat) (ps:List Nat) (ops:Array Oper) (o:Oper) (x:AOp):Prop where
 dst:x.d=o.dst
 lt:∀t,o.dst=some t->t<N/\t ∉ ps
 act:LV P o.type o.op x.a\/LE P o.type o.op x.a\/x.a=.bad
 grd:(o.guard=none/\x.g=none)\/∃j b oj t,o.guard=some (j,b)/\ops[j]?=some oj/\oj.dst=some t/\x.g=some (t,b)
theorem aeQ{ty:TypeId}{op:Op}{act:Act'}(h:LV P ty op act)(Φ:Ctr)(d:Option Nat)(K:St->Prop)(σ:St):af Φ d act K σ=match σ.val act with
 |some v=>K (σ.put d v)
 |none=>False:=by cases h<;>rfl
theorem yD(hJC:ig P M0 B){ρ:Option Nat}(H:Rel N M0 B w0 κ M σ a w){ops:Array Oper}{o:Oper}{x:AOp}(hl:LO P N B.ps ops o x){K:St->Prop}(hW:af (Cn P) x.d x.a K σ)
 {Nx:Act->World->Prop} (hK:∀κ' M' σ' a' w',K σ'->Rel N M0 B w0 κ' M' σ' a' w'->Nx a' w') {Q:Exit->Act->World->Prop}:o.wpIn (FR ρ) 0 P a w Nx Q:=by
 have hd:∀t,x.d=some t->t<N/\t ∉ B.ps:=by rw[hl.dst];exact hl.lt
 rcases hl.act with h|h|h
 ·rw[aeQ h]at hW
  split at hW
  ·rename_i v hv
   obtain⟨c,hr,hc⟩:=SL H h hv o rfl rfl;refine RA ?_ (aeV h);unfold Oper.wp;rw[hr,Oper.upon_value,<-hl.dst];exact hK _ _ _ _ _ hW (H.put' hd hc)
  ·exact hW.elim
 ·by_cases hy:∃g xs,x.a=.yld g xs
  ·obtain⟨g,xs,hy⟩:=hy
   rw[hy]at h hW;exact Sy hJC H h hd hW hK o rfl hl.dst.symm
  ·exact RA (Ui hJC H h (fun g xs e=>hy ⟨g,xs,e⟩) hd hW hK o rfl rfl hl.dst.symm) (Yf h)
 ·rw[h]at hW
  simp only[af,St.val]at hW
theorem MC(hJC:ig P M0 B){ρ:Option Nat}(H:Rel N M0 B w0 κ M σ a w){ops:Array Oper}{o:Oper}{x:AOp}(hl:LO P N B.ps ops o x){K:St->Prop}(hW:wop (Cn P) x K σ)
 {Nx:Act->World->Prop} (hK:∀κ' M' σ' a' w',K σ'->Rel N M0 B w0 κ' M' σ' a' w'->Nx a' w') {Q:Exit->Act->World->Prop}:
 if Region.wanted o (yielded ops a.tmps)then o.wpIn (FR ρ) 0 P a w Nx Q else Nx (a.put o.dst undef) w:=by
 have hd:∀t,x.d=some t->t<N/\t ∉ B.ps:=by rw[hl.dst];exact hl.lt
 have hu:K (σ.put x.d (.tup []))->Nx (a.put o.dst undef) w:=fun h=>by
  rw[<-hl.dst];exact hK _ _ _ _ _ h (H.undef hd)
 unfold wop at hW;rcases hl.grd with⟨h1,h2⟩|⟨j,b,oj,t,h1,h2,h3,h4⟩
 ·rw[h2]at hW
  have:Region.wanted o (yielded ops a.tmps)=true:=by simp[Region.wanted,h1]
  rw[if_pos this];exact yD hJC H hl hW hK
 ·rw[h4]at hW
  simp only at hW;split at hW
  ·rename_i y hy
   obtain⟨_,c,g1,g2⟩:=H.regs t _ hy;have hc:=iS g2;subst hc;have hyl:yielded ops a.tmps j=some y:=by simp[yielded,h2,h3,g1]
   have hw:Region.wanted o (yielded ops a.tmps)=decide (y=b):=by
    cases y<;>cases b<;>simp[Region.wanted,h1,hyl]
   rw[hw];cases y<;>cases b<;>simp[Br]at hW⊢
   ·exact yD hJC H hl hW hK
   ·exact hu hW
   ·exact hu hW
   ·exact yD hJC H hl hW hK
  ·rename_i hy
   obtain⟨_,c,g1,g2⟩:=H.regs t _ hy;simp only[rep,ae]at g2;obtain⟨arr,rfl,g3⟩:=g2;have hyl:yielded ops a.tmps j=none:=by simp[yielded,h2,h3,g1]
   have hw:¬Region.wanted o (yielded ops a.tmps)=true:=by simp[Region.wanted,h1,hyl]
   rw[if_neg hw];exact hu hW
  ·exact hW.elim
inductive LOs (P:Program) (N:Nat) (ps:List Nat) (ops:Array Oper):List Oper->List AOp->Prop
 |nil:LOs P N ps ops [] []
 |cons {o os x xs}:LO P N ps ops o x->LOs P N ps ops os xs->LOs P N ps ops (o::os) (x::xs)
theorem Hp(hJC:ig P M0 B){ρ:Option Nat}{ops:Array Oper}{Q:Exit->Act->World->Prop}{K:St->Prop}(hK:∀κ' M' σ' a' w',K σ'->Rel N M0 B w0 κ' M' σ' a' w'->Q .normal a' w'):
 ∀{os:List Oper}{xs:List AOp},LOs P N B.ps ops os xs->∀{κ:Kap}{M:Mem}{σ:St}{a:Act}{w:World},Rel N M0 B w0 κ M σ a w->xv (Cn P) xs K σ->wpListIn (FR ρ) 0 P ops Q os a w
 |_,_,.nil,_,_,_,_,_,H,hW=>hK _ _ _ _ _ hW H
 |_,_,.cons hl hs,_,_,_,_,_,H,hW=>by
   refine wpListIn_step fun K' hK'=>?_;have:=MC hJC (ρ:=ρ) H hl hW (Q:=Q) (fun κ' M' σ' a' w' hk H'=>hK' _ _ (Hp hJC hK hs H' hk));split
   ·rename_i hw;rw[if_pos hw]at this;exact this
   ·rename_i hw;rw[if_neg hw]at this;exact⟨fun _ _=>trivial,this⟩
end
end Go.Abs
end
section
namespace Go.Abs
def AO.rd:AO->List Nat
 | .t n=>[n]
 | .v _=>[]
def rdo:Option AO->List Nat
 |none=>[]
 |some x=>x.rd
def rdl:List AO->List Nat
 |[]=>[]
 |x::xs=>x.rd++rdl xs
def rdp:List (Nat×Nat×AO)->List Nat
 |[]=>[]
 |(_,_,x)::ps=>x.rd++rdp ps
def Act'.rds:Act'->List Nat
 | .mov x=>x.rd
 | .pick c a b=>c.rd++(a.rd++b.rd)
 | .fld x _ _ _=>x.rd
 | .fa x _=>x.rd
 | .ia x i _=>x.rd++i.rd
 | .iaa x i _ _=>x.rd++i.rd
 | .ld x _ _=>x.rd
 | .ixs x i=>x.rd++i.rd
 | .ixa x i _ _ _=>x.rd++i.rd
 | .bin _ x y=>x.rd++y.rd
 | .un _ x=>x.rd
 | .cii _ x=>x.rd
 | .r2s x=>x.rd
 | .s2b x=>x.rd
 | .b2s x=>x.rd
 | .sls x lo hi=>x.rd++(rdo lo++rdo hi)
 | .slq x lo hi _=>x.rd++(rdo lo++rdo hi)
 | .lens x=>x.rd
 | .lenq x=>x.rd
 | .beq _ x y=>x.rd++y.rd
 | .ext x _=>x.rd
 | .bld _ ps=>rdp ps
 | .lit _ _ xs=>rdl xs
 | .ltr _ _ xs=>rdl xs
 | .mkf _ a b=>rdl a++rdl b
 | .nlc x=>x.rd
 | .alc _=>[]
 | .box x=>x.rd
 | .st _ a x=>a.rd++x.rd
 | .app x y _ _ _=>x.rd++y.rd
 | .mks _ _ _ _ n=>n.rd
 | .mkm _ _ _ _ n=>n.rd
 | .mk0 _ _ _ n=>n.rd
 | .call _ xs=>rdl xs
 | .callv g xs=>g.rd++rdl xs
 | .callH _ xs=>rdl xs
 | .mki _ x=>x.rd
 | .tya _ _ _ x=>x.rd
 | .aeq _ _ x y=>x.rd++y.rd
 | .mkp _=>[]
 | .lkp _ _ _ x k=>x.rd++k.rd
 | .mup _ x k v=>x.rd++(k.rd++v.rd)
 | .inv _ x xs=>x.rd++rdl xs
 | .ivp _ x xs=>x.rd++rdl xs
 | .mm _ x y=>x.rd++y.rd
 | .trc x hi _=>x.rd++hi.rd
 | .alq _=>[]
 | .bxq x=>x.rd
 | .cvb x=>x.rd
 | .apz y _ _ _=>y.rd
 | .sbq y=>y.rd
 | .aps x y _=>x.rd++y.rd
 | .apb x y _=>x.rd++y.rd
 | .alb _ _ _=>[]
 | .usd x=>x.rd
 | .ust p n _=>p.rd++n.rd
 | .del _ x k=>x.rd++k.rd
 | .mkq _ _ _ _ n=>n.rd
 | .nlq _ _ x=>x.rd
 | .yld g xs=>g.rd++rdl xs
 | .rgs x=>x.rd
 | .nxs x=>x.rd
 | .bad=>[]
def iN:AO->Nat
 | .v (.nil _)=>2
 |_=>3
theorem Rp(x:AO):2<=iN x:=by unfold iN;split<;>decide
def Act'.kind:Act'->Nat
 | .fa _ _=>1
 | .ia _ _ _=>1
 | .iaa _ _ _ _=>1
 | .ld _ _ _=>1
 | .b2s _=>1
 | .lenq _=>1
 | .nlc _=>1
 | .call _ _=>1
 | .callv _ _=>1
 | .alc _=>2
 | .box _=>2
 | .mks _ _ _ _ _=>2
 | .mkm _ _ _ _ _=>2
 | .mk0 _ _ _ _=>2
 | .st _ _ _=>3
 | .callH _ _=>3
 | .lkp _ _ _ _ _=>1
 | .mkp _=>2
 | .mup _ _ _ _=>3
 | .inv _ _ _=>3
 | .ivp _ _ _=>3
 | .trc _ _ _=>3
 | .alq _=>3
 | .bxq _=>3
 | .cvb _=>3
 | .apz _ _ _ _=>1
 | .sbq _=>3
 | .aps _ _ _=>3
 | .apb _ _ _=>3
 | .alb _ _ _=>3
 | .usd _=>1
 | .ust _ _ _=>3
 | .del _ _ _=>3
 | .mkq _ _ _ _ _=>3
 | .ltr _ _ _=>3
 | .yld _ _=>3
 | .rgs _=>2
 | .nxs _=>3
 | .nlq _ _ _=>1
 | .app x _ _ _ _=>iN x
 |_=>0
def AOp.rds(o:AOp):List Nat:=o.a.rds++(match o.g with
 |none=>[]
 |some (t,_)=>[t])
def Agr(σ σ':St)(rs:List Nat):Prop:=∀t,t∈rs->lk σ'.r t=lk σ.r t
def Ext(σ σ':St):Prop:=∀(id:Nat)(ob:Ob),σ.h[id]?=some (some ob)->σ'.h[id]?=some (some ob)
section
variable{σ σ':St}
theorem Agr.sub{rs ss:List Nat}(h:Agr σ σ' rs)(hs:∀t,t∈ss->t∈rs):Agr σ σ' ss:=fun t ht=>h t (hs t ht)
theorem Agr.l{rs ss:List Nat}(h:Agr σ σ' (rs++ss)):Agr σ σ' rs:=h.sub fun t ht=>zCh _ ht
theorem Agr.r{rs ss:List Nat}(h:Agr σ σ' (rs++ss)):Agr σ σ' ss:=h.sub fun t ht=>List.mem_append_right _ ht
theorem Agr.ev{x:AO}(h:Agr σ σ' x.rd):σ'.ev x=σ.ev x:=by
 cases x with
 |t n=>exact h n (by simp[AO.rd])
 |v x=>rfl
theorem Agr.evo{d:V}{x:Option AO}(h:Agr σ σ' (rdo x)):σ'.evo d x=σ.evo d x:=by
 cases x with
 |none=>rfl
 |some x=>exact Agr.ev (x:=x) h
theorem Agr.evs:∀{xs:List AO},Agr σ σ' (rdl xs)->σ'.evs xs=σ.evs xs
 |[],_=>rfl
 |x::xs,h=>by simp only[St.evs,Agr.ev (Agr.l h),Agr.evs (Agr.r h)]
theorem Agr.bldV:∀{ps:List (Nat×Nat×AO)}{cs:List V},Agr σ σ' (rdp ps)->bldV σ' cs ps=bldV σ cs ps
 |[],_,_=>rfl
 |(off,n,x)::ps,cs,h=>by
   simp only[Abs.bldV,Agr.ev (Agr.l h)];cases σ.ev x with
   |none=>rfl
   |some v=>
     simp only;split
     ·cases jn cs off (cl v)with
      |none=>rfl
      |some cs'=>exact Agr.bldV (Agr.r h)
     ·rfl
theorem Ext.box(h:Ext σ σ'){id cs}(hb:σ.box? id=some cs):σ'.box? id=some cs:=by
 simp only[St.box?,h _ _ (iM hb)]
theorem Ext.arr(h:Ext σ σ'){id x}(hb:σ.arr? id=some x):σ'.arr? id=some x:=by
 simp only[St.arr?,h _ _ (eC hb)]
theorem Ext.mat(h:Ext σ σ'){id x}(hb:σ.rws? id=some x):σ'.rws? id=some x/\σ'.arr? id=none:=by
 constructor
 ·simp only[St.rws?,h _ _ (fR hb)]
 ·simp only[St.arr?,h _ _ (fR hb)]
theorem Ext.mp(h:Ext σ σ'){id x}(hb:σ.mp? id=some x):σ'.mp? id=some x:=by
 simp only[St.mp?,h _ _ (xR hb)]
theorem ac5{ms:List Po}(h:σ.h[0]?=some (some (.pool ms))):σ.pl?=some ms:=by
 unfold St.pl?;cases hh:σ.h with
 |nil=>rw[hh]at h;simp at h
 |cons a l=>rw[hh]at h;simp at h;subst h;rfl
theorem Ext.pl(h:Ext σ σ'){ms}(hb:σ.pl?=some ms):σ'.pl?=some ms:=ac5 (h _ _ (bW hb))
theorem Ext.live(h:Ext σ σ'){v:V}(hv:σ.live v=true):σ'.live v=true:=by
 cases v<;>simp only[St.live]at hv⊢<;>try assumption
 case ptr id off=>
  obtain⟨cs,hc⟩:=Option.isSome_iff_exists.1 hv;rw[h.box hc];rfl
 case eptr id n i off=>
  split at hv
  ·rename_i e sz l hl
   rw[h.arr hl];exact hv
  ·cases hv
 case mptr id i n k off=>
  split at hv
  ·rename_i e e2 sz l hl
   rw[(h.mat hl).1];exact hv
  ·cases hv
 case q k j n i o=>
  split at hv
  ·rename_i ms hms
   rw[h.pl hms];exact hv
  ·cases hv
 case fn f a b=>cases f<;>exact hv
theorem Ext.fetch(h:Ext σ σ'){p:V}{n:Nat}{us:List V}(hv:σ.fetch p n=some us):σ'.fetch p n=some us:=by
 cases p<;>simp only[St.fetch]at hv⊢<;>try assumption
 case ptr id off=>
  split at hv
  ·rename_i cs hc;rw[h.box hc];exact hv
  ·cases hv
 case eptr id m i off=>
  split at hv
  ·rename_i e sz l hl;rw[h.arr hl];exact hv
  ·split at hv
   ·rename_i e e2 sz l hl;simp only[(h.mat hl).1,(h.mat hl).2];exact hv
   ·cases hv
 case mptr id i n k off=>
  split at hv
  ·rename_i e e2 sz l hl
   rw[(h.mat hl).1];exact hv
  ·cases hv
 case q k j m i o=>
  split at hv
  ·rename_i ms hms
   rw[h.pl hms];exact hv
  ·cases hv
theorem Ext.pur1(h:Ext σ σ'){id n:Nat}{u:V}(hv:pur1 σ.h id n=some u):pur1 σ'.h id n=some u:=by
 unfold Abs.pur1 at hv⊢;split at hv
 ·rename_i hb;rw[h _ _ hb];exact hv
 ·rename_i hb;rw[h _ _ hb];exact hv
 ·cases hv
theorem Ext.pur2(h:Ext σ σ'){id i n:Nat}{u:V}(hv:pur2 σ.h id i n=some u):pur2 σ'.h id i n=some u:=by
 unfold Abs.pur2 at hv⊢;split at hv
 ·rename_i hb;rw[h _ _ hb];exact hv
 ·cases hv
mutual
theorem Ext.pur(h:Ext σ σ'):∀{v u:V},pur σ.h v=some u->pur σ'.h v=some u
 | .nil sz,_,hv=>by simp only[Abs.pur]at hv⊢;exact hv
 | .ref id n,_,hv=>by simp only[Abs.pur]at hv⊢;exact h.pur1 hv
 | .mref id i n,_,hv=>by simp only[Abs.pur]at hv⊢;exact h.pur2 hv
 | .fseq _ _,_,hv=>by simp only[Abs.pur]at hv⊢;exact hv
 | .mptr _ _ _ _ _,_,hv=>by simp only[Abs.pur]at hv;cases hv
 | .strct cs,_,hv=>by
   simp only[Abs.pur,zAc]at hv⊢;obtain⟨us,h1,h2⟩:=hv;exact⟨us,Ext.purs h h1,h2⟩
 | .tup cs,_,hv=>by
   simp only[Abs.pur,zAc]at hv⊢;obtain⟨us,h1,h2⟩:=hv;exact⟨us,Ext.purs h h1,h2⟩
 | .fn f a b,_,hv=>by
   simp only[Abs.pur]at hv⊢;split at hv
   ·rename_i a' b' h1 h2;rw[Ext.purs h h1,Ext.purs h h2];exact hv
   ·cases hv
 | .iface t x,_,hv=>by
   simp only[Abs.pur,zAc]at hv⊢;obtain⟨us,h1,h2⟩:=hv;exact⟨us,Ext.pur h h1,h2⟩
 | .ptr _ _,_,hv=>by simp only[Abs.pur]at hv;cases hv
 | .eptr _ _ _ _,_,hv=>by simp only[Abs.pur]at hv;cases hv
 | .int _ _,_,hv=>by simp only[Abs.pur]at hv⊢;exact hv
 | .bool _,_,hv=>by simp only[Abs.pur]at hv⊢;exact hv
 | .str _,_,hv=>by simp only[Abs.pur]at hv⊢;exact hv
 | .seq _ _,_,hv=>by simp only[Abs.pur]at hv⊢;exact hv
 | .sptr _ _,_,hv=>by simp only[Abs.pur]at hv⊢;exact hv
 | .nilptr,_,hv=>by simp only[Abs.pur]at hv⊢;exact hv
 | .nilfn,_,hv=>by simp only[Abs.pur]at hv⊢;exact hv
 | .nilmp,_,hv=>by simp only[Abs.pur]at hv⊢;exact hv
 | .niliface,_,hv=>by simp only[Abs.pur]at hv⊢;exact hv
 | .junk,_,hv=>by simp only[Abs.pur]at hv⊢;exact hv
theorem Ext.purs(h:Ext σ σ'):∀{v u:List V},purs σ.h v=some u->purs σ'.h v=some u
 |[],_,hv=>by simp only[Abs.purs]at hv⊢;exact hv
 |v::vs,_,hv=>by
   simp only[Abs.purs]at hv⊢;split at hv
   ·rename_i a' b' h1 h2;rw[Ext.pur h h1,Ext.purs h h2];exact hv
   ·cases hv
end
theorem Zh{a:Act'}(hk:a.kind=0)(h:Agr σ σ' a.rds):σ'.val a=σ.val a:=by
 cases a<;>simp only[Act'.kind]at hk<;>first|exact absurd hk (by decide)|skip
 all_goals simp only[Act'.rds]at h
 all_goals simp only[St.val]
 case mov x=>exact h.ev
 case pick c a b=>rw[h.l.ev,h.r.l.ev,h.r.r.ev]
 case fld=>rw[h.ev]
 case ixs=>rw[h.l.ev,h.r.ev]
 case ixa=>rw[h.l.ev,h.r.ev]
 case bin=>rw[h.l.ev,h.r.ev]
 case un=>rw[h.ev]
 case cii=>rw[h.ev]
 case r2s=>rw[h.ev]
 case sls=>simp only[h.l.ev,h.r.l.evo,h.r.r.evo]
 case slq=>simp only[h.l.ev,h.r.l.evo,h.r.r.evo]
 case lens=>rw[h.ev]
 case beq=>rw[h.l.ev,h.r.ev]
 case ext=>rw[h.ev]
 case bld=>rw[h.bldV]
 case mkf=>rw[h.l.evs,h.r.evs]
 case mki=>rw[h.ev]
 case tya=>rw[h.ev]
 case aeq=>rw[h.l.ev,h.r.ev]
 case mm=>rw[h.l.ev,h.r.ev]
theorem Ext.isNil(h:Ext σ σ'){k:Nat}{v:V}{b:Bool}(hb:St.isNil k (σ.live v) v=some b):St.isNil k (σ'.live v) v=some b:=by
 cases hl:σ.live v with
 |true=>rw[h.live hl];rw[hl]at hb;exact hb
 |false=>
   rw[hl]at hb;cases v<;>simp[St.isNil]at hb⊢<;>exact hb
theorem Ext.isNilB(h:Ext σ σ'){k:Nat}{v:V}{b:Bool}(hb:(if k=3 then St.isNilM σ v else St.isNil k (σ.live v) v)=some b):(if k=3 then St.isNilM σ' v else St.isNil k (σ'.live v) v)=some b:=by
 by_cases hk:k=3
 ·rw[if_pos hk]at hb⊢
  cases v<;>simp only[St.isNilM]at hb⊢<;>first|exact hb|skip
  split at hb
  ·rename_i hm
   cases hq:σ.mp? _ with
   |none=>rw[hq]at hm;simp at hm
   |some q=>
     obtain⟨kt,l⟩:=q;rw[h.mp hq];exact hb
  ·cases hb
 ·rw[if_neg hk]at hb⊢
  exact h.isNil hb
theorem SM{a:Act'}(hk:a.kind=1)(h:Agr σ σ' a.rds)(hx:Ext σ σ'){v:V}(hv:σ.val a=some v):σ'.val a=some v:=by
 cases a<;>simp only[Act'.kind]at hk<;>first|exact absurd hk (by decide)|skip
 all_goals simp only[Act'.rds]at h
 all_goals simp only[St.val]at hv⊢
 case call=>cases hv
 case callv=>cases hv
 case app=>cases hv
 case apz=>cases hv
 case usd=>cases hv
 case fa x off=>
  rw[h.ev];split at hv
  ·rename_i u hu
   split at hv
   ·rename_i hl;rw[if_pos (hx.live hl)];exact hv
   ·cases hv
  ·cases hv
 case ia x i sz=>
  rw[h.l.ev,h.r.ev];split at hv
  ·exact hv
  ·exact hv
  ·rename_i id m k n h1 h2
   split at hv
   ·rename_i e sz' l hl;rw[hx.arr hl];exact hv
   ·split at hv
    ·rename_i e e2 sz l hl;simp only[(hx.mat hl).1,(hx.mat hl).2];exact hv
    ·cases hv
  ·split at hv
   ·rename_i e e2 sz l hl;rw[(hx.mat hl).1];exact hv
   ·cases hv
  ·split at hv
   ·rename_i ms hms;rw[hx.pl hms];exact hv
   ·cases hv
  ·cases hv
 case iaa x i len sz=>
  rw[h.l.ev,h.r.ev];split at hv
  ·rename_i u k n h1 h2
   split at hv
   ·rename_i hl;rw[if_pos ⟨hx.live hl.1,hl.2⟩];exact hv
   ·cases hv
  ·cases hv
 case ld x n agg=>
  rw[h.ev];split at hv
  ·rename_i p hp
   split at hv
   ·rename_i us hus;simp only[hx.fetch hus];exact hv
   ·cases hv
  ·cases hv
 case b2s x=>
  rw[h.ev];split at hv
  ·split at hv
   ·rename_i ms hms;simp only[hx.pl hms];exact hv
   ·cases hv
  ·rename_i u _ hu
   split at hv
   ·rename_i l hl;simp only[hx.pur hl];exact hv
   ·cases hv
  ·cases hv
 case lenq x=>
  rw[h.ev];split at hv
  ·exact hv
  ·exact hv
  ·exact hv
  ·rename_i id n hu
   split at hv
   ·rename_i e sz l hl;simp only[hx.arr hl];exact hv
   ·split at hv
    ·rename_i e e2 sz l hl;simp only[(hx.mat hl).1,(hx.mat hl).2];exact hv
    ·cases hv
  ·split at hv
   ·rename_i e e2 sz l hl;simp only[(hx.mat hl).1];exact hv
   ·cases hv
  ·split at hv
   ·rename_i ms hms;simp only[hx.pl hms];exact hv
   ·cases hv
  ·cases hv
 case nlc x=>
  rw[h.ev];split at hv
  ·rename_i u hu
   split at hv
   ·rename_i hl;rw[if_pos (hx.live hl)];exact hv
   ·cases hv
  ·cases hv
 case nlq k neg x=>
  rw[h.ev];split at hv
  ·rename_i u hu
   split at hv
   ·rename_i b hb;simp only[hx.isNilB hb];exact hv
   ·cases hv
  ·cases hv
 case lkp kt z okk x k=>
  rw[h.l.ev,h.r.ev];split at hv
  ·rename_i id n kv h1 h2
   split at hv
   ·rename_i kt' l hm
    simp only[hx.mp hm];exact hv
   ·cases hv
  ·exact hv
  ·cases hv
def ae9(k:Nat)(σ σ':St):Prop:=k=0\/(k=1/\Ext σ σ')\/σ'.h=σ.h
def post(k:Nat)(σ':St)(h':List (Option Ob))(d:Option Nat)(v:V):St:=St.put { σ' with h:=if k<=1 then σ'.h else h' } d v
def Pe(T:(St->Prop)->St->Prop)(k:Nat)(rs:List Nat)(d:Option Nat)(σ:St)(K:St->Prop):Prop:=
 ∃h' v,(k<=1->h'=σ.h)/\(k=2->∀(id:Nat)(ob:Ob),σ.h[id]?=some (some ob)->h'[id]?=some (some ob))/\K (St.put { σ with h:=h' } d v)/\
   ∀(σ':St)(K':St->Prop),Agr σ σ' rs->ae9 k σ σ'->K' (post k σ' h' d v)->T K' σ'
theorem ae9.ext{k:Nat}(h:ae9 k σ σ')(hk:k=1):Ext σ σ':=by
 rcases h with h|h|h
 ·omega
 ·exact h.2
 ·intro i ob h';rw[h];exact h'
theorem ae9.heq{k:Nat}(h:ae9 k σ σ')(hk:2<=k):σ'.h=σ.h:=by
 rcases h with h|h|h
 ·omega
 ·omega
 ·exact h
variable{Φ:Ctr}{d:Option Nat}{K:St->Prop}
theorem SJ{a:Act'}{v:V}(h:σ.val a=some v)(hK:K (σ.put d v))(hk:a.kind<=1):ah Φ d a K σ:=by
 cases a<;>simp only[ah,af]<;>simp only[Act'.kind]at hk<;>first|(simp only[h];exact hK)|(exfalso;revert hk;decide)|(simp[St.val]at h)
theorem Xo{a:Act'}(hk:a.kind<=1){v:V}(h:σ.val a=some v)(hK:K (σ.put d v)):Pe (ah Φ d a) a.kind a.rds d σ K:=by
 refine⟨σ.h,v,fun _=>rfl,fun _ _ _ h=>h,hK,fun σ' K' ha hf hK'=>?_⟩;simp only[post,if_pos hk]at hK';refine SJ (v:=v) ?_ hK' hk;rcases Nat.le_one_iff_eq_zero_or_eq_one.1 hk with h0|h1
 ·rw[Zh h0 ha];exact h
 ·exact SM h1 ha (hf.ext h1) h
theorem cu{α:Type}{l:List α}{x y:α}{i:Nat}(h:l[i]?=some x):(l++[y])[i]?=some x:=by
 rw[zCc (zAf.1 h).1];exact h
theorem WO(r:List (Nat×V)):∀(ids:List Nat)(σ:St),({ σ with r:=r }:St).kill ids={ (σ.kill ids)with r:=r }
 |[],σ=>rfl
 |id::ids,σ=>by simp only[St.kill];exact WO r ids { σ with h:=σ.h.set id none }
theorem Zq(r:List (Nat×V))(σ:St)(n id m i off:Nat)(us:List V):({ σ with r:=r }:St).storM n id m i off us=(σ.storM n id m i off us).map fun τ=>{ τ with r:=r }:=by
 have e1:∀id,St.arr? { σ with r:=r } id=σ.arr? id:=fun _=>rfl
 have e2:∀id,St.rws? { σ with r:=r } id=σ.rws? id:=fun _=>rfl
 unfold St.storM;split
 ·simp only[e1,e2]
  split
  ·split
   ·split<;>rfl
   ·rfl
  ·rfl
 ·rfl
theorem VE(r:List (Nat×V))(σ:St)(n:Nat)(p:V)(us:List V):({ σ with r:=r }:St).stor n p us=(σ.stor n p us).map fun τ=>{ τ with r:=r }:=by
 have e1:∀(τ:St)id,St.arr? { τ with r:=r } id=τ.arr? id:=fun _ _=>rfl
 have e2:∀(τ:St)id,St.rws? { τ with r:=r } id=τ.rws? id:=fun _ _=>rfl
 have e3:∀(τ:St)id,St.box? { τ with r:=r } id=τ.box? id:=fun _ _=>rfl
 have e4:∀(τ:St),St.pl? { τ with r:=r }=τ.pl?:=fun _=>rfl
 cases p<;>simp only[St.stor,WO,e1,e2,e3,e4,Zq]<;>try rfl
 ·split
  ·split
   ·split<;>rfl
   ·rfl
  ·rfl
 ·split
  ·split
   ·split
    ·split
     ·split
      ·split<;>rfl
      ·rfl
     ·rfl
    ·rfl
   ·rfl
  ·rfl
 ·split
  ·split
   ·split
    ·split
     ·split
      ·split
       ·split<;>rfl
       ·rfl
      ·rfl
     ·rfl
    ·rfl
   ·rfl
  ·rfl
 ·split
  ·split
   ·split
    ·split<;>rfl
    ·rfl
   ·split
    ·split
     ·split
      ·split<;>rfl
      ·rfl
     ·rfl
    ·rfl
   ·split
    ·split<;>rfl
    ·rfl
   ·rfl
  ·rfl
theorem Zp(σ:St)(n:Nat)(p:V)(us:List V){τ:St}(h:σ.stor n p us=some τ):τ.r=σ.r:=by
 have h1:=VE σ.r σ n p us;have h2:({ σ with r:=σ.r }:St)=σ:=rfl
 rw[h2,h]at h1;simp only[zBd,zAb]at h1;rw[h1]
theorem a7{σ σ':St}(he:σ'.h=σ.h)(v:V):σ'.cur0 v=σ.cur0 v:=by
 cases v<;>simp only[St.cur0,St.box?,St.arr?,St.gh?,St.pl?,he]
mutual
theorem yq{σ σ':St}(he:σ'.h=σ.h):∀v:V,σ'.cur v=σ.cur v
 | .fn _ a b=>by simp only[St.cur,ll he a,ll he b]
 | .strct a=>by simp only[St.cur,ll he a]
 | .tup a=>by simp only[St.cur,ll he a]
 | .iface _ x=>by simp only[St.cur,yq he x]
 | .int _ _=>by simp only[St.cur,a7 he]
 | .bool _=>by simp only[St.cur,a7 he]
 | .str _=>by simp only[St.cur,a7 he]
 | .nil _=>by simp only[St.cur,a7 he]
 | .seq _ _=>by simp only[St.cur,a7 he]
 | .fseq _ _=>by simp only[St.cur,a7 he]
 | .sptr _ _=>by simp only[St.cur,a7 he]
 | .nilptr=>by simp only[St.cur,a7 he]
 | .nilfn=>by simp only[St.cur,a7 he]
 | .nilmp=>by simp only[St.cur,a7 he]
 | .niliface=>by simp only[St.cur,a7 he]
 | .junk=>by simp only[St.cur,a7 he]
 | .mref _ _ _=>by simp only[St.cur,a7 he]
 | .mptr _ _ _ _ _=>by simp only[St.cur,a7 he]
 | .ref _ _=>by simp only[St.cur,a7 he]
 | .ptr _ _=>by simp only[St.cur,a7 he]
 | .eptr _ _ _ _=>by simp only[St.cur,a7 he]
 | .q _ _ _ _ _=>by simp only[St.cur,a7 he]
theorem ll{σ σ':St}(he:σ'.h=σ.h):∀v:List V,σ'.curA v=σ.curA v
 |[]=>rfl
 |v::vs=>by simp only[St.curA,yq he v,ll he vs]
end
theorem Do{σ σ':St}(he:σ'.h=σ.h):∀l:List V,σ'.curs l=σ.curs l
 |[]=>rfl
 |v::l=>by simp only[St.curs,yq he,Do he l]
theorem B1:∀(l:List Nat){σ σ':St},σ'.h=σ.h->(σ'.kill l).h=(σ.kill l).h
 |[],_,_,he=>he
 |id::l,σ,σ',he=>by
   simp only[St.kill];exact B1 l (by simp only[he])
theorem Rl{σ σ':St}(he:σ'.h=σ.h){q:Nat}{m:List Nat}{H':List (Option Ob)}:σ'.back q m H'=σ.back q m H':=by
 simp only[St.back,B1 m he,he]
theorem zg:∀(ids:List Nat){σ σ':St},σ'.h=σ.h->(σ'.kill ids).h=(σ.kill ids).h
 |[],_,_,he=>he
 |id::ids,σ,σ',he=>by
   simp only[St.kill];exact zg ids (by simp only[he])
theorem Ext.src(h:Ext σ σ'){v u:V}(hv:src σ.h v=some u):src σ'.h v=some u:=by
 cases v<;>simp only[Abs.src]at hv⊢<;>try exact h.pur hv
 split at hv
 ·rename_i e sz l hl;rw[h _ _ hl];exact hv
 ·cases hv
theorem Ba{a:Act'}(h:ah Φ d a K σ):Pe (ah Φ d a) a.kind a.rds d σ K:=by
 cases a with
 |lit e0 sz xs=>
   simp only[ah]at h;split at h
   ·rename_i vs hvs
    split at h
    ·rename_i us hus
     refine⟨σ.h,.seq sz us,fun _=>rfl,fun _ _ _ h=>h,h.2.2,fun σ' K' ha hf hK'=>?_⟩;simp only[Act'.rds]at ha;simp only[ah,ha.evs,hvs,hus];exact⟨h.1,h.2.1,hK'⟩
    ·exact h.elim
   ·exact h.elim
 |call f xs=>
   simp only[ah]at h;split at h
   ·rename_i vs hvs
    split at h
    ·rename_i us hus
     obtain⟨r,h1,h3⟩:=h;refine⟨σ.h,r,fun _=>rfl,fun _ _ _ h=>h,h3,fun σ' K' ha hf hK'=>?_⟩;simp only[Act'.rds]at ha;simp only[ah,ha.evs,hvs,(hf.ext rfl).purs hus];exact zCj r ⟨h1,hK'⟩
    ·exact h.elim
   ·exact h.elim
 |callv g xs=>
   simp only[ah]at h;split at h
   ·rename_i f a b vs hg hvs
    split at h
    ·rename_i us hus
     obtain⟨r,h1,h3⟩:=h;refine⟨σ.h,r,fun _=>rfl,fun _ _ _ h=>h,h3,fun σ' K' ha hf hK'=>?_⟩;simp only[Act'.rds]at ha;simp only[ah,ha.l.ev,hg,ha.r.evs,hvs,(hf.ext rfl).purs hus];exact zCj r ⟨h1,hK'⟩
    ·exact h.elim
   ·exact h.elim
 |alc z=>
   simp only[ah,af]at h;refine⟨_,_,fun h=>absurd h (by simp[Act'.kind]),fun _ id ob h=>cu h,h,fun σ' K' ha hf hK'=>?_⟩
   simp only[ah,af];rw[hf.heq (by simp[Act'.kind])]
   exact hK'
 |box x=>
   simp only[ah,af]at h;split at h
   ·rename_i v hv
    split at h
    ·rename_i hn
     refine⟨_,_,fun h=>absurd h (by simp[Act'.kind]),fun _ id ob h=>cu h,h,fun σ' K' ha hf hK'=>?_⟩
     simp only[Act'.rds]at ha;simp only[ah,af,ha.ev,hv,if_pos hn];rw[hf.heq (by simp[Act'.kind])]
     exact hK'
    ·exact h.elim
   ·exact h.elim
 |mkm e by' e2 sz n=>
   simp only[ah,af]at h;split at h
   ·rename_i k m hm
    obtain⟨h1,h2,h3⟩:=h;refine⟨_,_,fun h=>absurd h (by simp[Act'.kind]),fun _ id ob h=>cu h,h3,fun σ' K' ha hf hK'=>?_⟩
    simp only[Act'.rds]at ha;simp only[ah,af,ha.ev,hm];rw[hf.heq (by simp[Act'.kind])]
    exact⟨h1,h2,hK'⟩
   ·exact h.elim
 |mk0 e sz by' n=>
   simp only[ah,af]at h;split at h
   ·rename_i k m hm
    obtain⟨h1,h2,h3⟩:=h;refine⟨_,_,fun h=>absurd h (by simp[Act'.kind]),fun _ id ob h=>cu h,h3,fun σ' K' ha hf hK'=>?_⟩
    simp only[Act'.rds]at ha;simp only[ah,af,ha.ev,hm];rw[hf.heq (by simp[Act'.kind])]
    exact⟨h1,h2,hK'⟩
   ·exact h.elim
 |mks e sz by' z n=>
   simp only[ah,af]at h;split at h
   ·rename_i k m hm
    obtain⟨h1,h2,h3⟩:=h;refine⟨_,_,fun h=>absurd h (by simp[Act'.kind]),fun _ id ob h=>cu h,h3,fun σ' K' ha hf hK'=>?_⟩
    simp only[Act'.rds]at ha;simp only[ah,af,ha.ev,hm];rw[hf.heq (by simp[Act'.kind])]
    exact⟨h1,h2,hK'⟩
   ·exact h.elim
 |s2b x=>
   simp only[ah,af]at h;split at h
   ·rename_i s hs
    refine⟨σ.h,_,fun _=>rfl,fun _ _ _ h=>h,h.2,fun σ' K' ha hf hK'=>?_⟩;simp only[Act'.rds]at ha;simp only[ah,af,ha.ev,hs];exact⟨h.1,hK'⟩
   ·exact h.elim
 |st n p x=>
   simp only[ah,af]at h;split at h
   ·rename_i a v ha hv
    split at h
    ·rename_i hn
     split at h
     ·rename_i σ1 hs
      have hr:σ1.r=σ.r/\∀σ':St,σ'.h=σ.h->σ'.stor n a (cl v)=some { σ' with h:=σ1.h }:=by
       refine⟨Zp _ _ _ _ hs,fun σ' he=>?_⟩;have h1:=VE σ'.r σ n a (cl v);have h2:({ σ with r:=σ'.r }:St)=σ':=by rw[<-he]
       rw[h2,hs]at h1;rw[h1,zBd]
      refine⟨σ1.h,.tup [],fun h=>absurd h (by simp[Act'.kind]),fun h=>absurd h (by simp[Act'.kind]),?_,fun σ' K' hg hf hK'=>?_⟩
      ·have:({ σ with h:=σ1.h }:St)=σ1:=by rw[<-hr.1]
       rw[this];exact h
      ·simp only[Act'.rds]at hg
       simp only[ah,af,hg.l.ev,ha,hg.r.ev,hv,if_pos hn,hr.2 σ' (hf.heq (by simp[Act'.kind]))]
       exact hK'
     ·exact h.elim
    ·exact h.elim
   ·exact h.elim
 |app x y e sz by'=>
   have hk2:∀y' e' sz' b',2<=(Act'.app x y' e' sz' b').kind:=fun _ _ _ _=>Rp x;have hne:¬(Act'.app x y e sz by').kind<=1:=by have:=hk2 y e sz by';omega
   simp only[ah]at h;split at h
   ·rename_i vy hvy
    split at h
    ·exact h.elim
    rename_i hbad;have hbad:rG x vy=false:=by simpa using hbad
    simp only[af]at h;split at h
    ·rename_i k j n i0 o0 v hu hv
     rw[hvy]at hv;cases hv;unfold Lq at h;split at h
     ·rename_i ms hms
      split at h
      ·rename_i e1 sz1 l0 l hj hsrc
       obtain⟨h1,h2,h3,h4,h5,h6⟩:=h
       have hn2:(Act'.app x y e sz by').kind≠2:=by
        cases x with
        |t n=>simp[Act'.kind,iN]
        |v x=>
          simp only[St.ev,zAb]at hu;subst hu;simp[Act'.kind,iN]
       refine⟨_,_,fun h=>absurd h hne,fun h=>absurd h hn2,h6,fun σ' K' hg hf hK'=>?_⟩;simp only[post,if_neg hne]at hK';simp only[Act'.rds]at hg;have he:=hf.heq (hk2 y e sz by');have hms':σ'.pl?=some ms:=by simp only[St.pl?,he];exact hms
       have hsrc':DQ σ' ms sz vy=some l:=by
        rw[<-hsrc];cases vy<;>simp only[DQ,VM,he]
       simp only[ah,hg.r.ev,hvy,hbad,zBe,if_false,af,hg.l.ev,hu,Lq,hms',hj,hsrc'];refine⟨h1,h2,h3,h4,h5,?_⟩;simp only[St.setP,he];exact hK'
      ·exact h.elim
     ·exact h.elim
    ·rename_i s0 k j n i0 o0 hu hv
     rw[hvy]at hv;cases hv;unfold Lr at h;split at h
     ·rename_i ms hms
      split at h
      ·rename_i e1 sz1 l hj
       obtain⟨h1,h2,h3,h4,h5⟩:=h
       have hn2:(Act'.app x y e sz by').kind≠2:=by
        cases x with
        |t n=>simp[Act'.kind,iN]
        |v x=>
          simp only[St.ev,zAb]at hu;subst hu;simp[rG]at hbad
       refine⟨_,_,fun h=>absurd h hne,fun h=>absurd h hn2,h5,fun σ' K' hg hf hK'=>?_⟩;simp only[post,if_neg hne]at hK';simp only[Act'.rds]at hg;have he:=hf.heq (hk2 y e sz by');have hms':σ'.pl?=some ms:=by simp only[St.pl?,he];exact hms
       simp only[ah,hg.r.ev,hvy,hbad,zBe,if_false,af,hg.l.ev,hu,Lr,hms',hj];refine⟨h1,h2,h3,h4,?_⟩;simp only[St.setP,he];exact hK'
      ·exact h.elim
     ·exact h.elim
    rotate_left
    ·exact h.elim
    rename_i u v hn1 hn2' hu hv;rw[hvy]at hv;cases hv;have hv:=hvy;split at h
    ·rename_i sz' l hl
     obtain⟨h0,h⟩:=h;split at h
     ·rename_i sz2
      refine⟨_,_,fun h=>absurd h (by have:=hk2 y e sz by';omega),fun _ id ob h=>cu h,h.2,fun σ' K' hg hf hK'=>?_⟩
      simp only[post,if_neg hne]at hK';simp only[Act'.rds]at hg;have he:=hf.heq (hk2 y e sz by');simp only[ah,hg.r.ev,hv,hbad,zBe,if_false,af,hg.l.ev,hu];rw[he];simp only[hl];exact⟨h0,h.1,hK'⟩
     ·rename_i id n
      split at h
      ·rename_i e' sz2 l0 ha
       obtain⟨h1,h2,h3,h4,h5⟩:=h
       have hn2:(Act'.app x y e sz by').kind≠2:=by
        cases x with
        |t n=>simp[Act'.kind,iN]
        |v x=>
          simp only[St.ev,zAb]at hu;subst hu;simp[Act'.kind,iN]
       refine⟨_,_,fun h=>absurd h hne,fun h=>absurd h hn2,h5,fun σ' K' hg hf hK'=>?_⟩;simp only[post,if_neg hne]at hK';simp only[Act'.rds]at hg;have he:=hf.heq (hk2 y e sz by');have ha':σ'.arr? id=some (e',sz2,l0):=by simp only[St.arr?,he];exact ha
       simp only[ah,hg.r.ev,hv,hbad,zBe,if_false,af,hg.l.ev,hu,ha'];rw[he];simp only[hl];exact⟨h0,h1,h2,h3,h4,hK'⟩
      ·exact h.elim
     ·rename_i id i n
      split at h
      ·rename_i e1 e2 sz2 rows ha
       split at h
       ·rename_i r hr
        obtain⟨h1,h2,h3,h4,h5⟩:=h
        have hn2:(Act'.app x y e sz by').kind≠2:=by
         cases x with
         |t n=>simp[Act'.kind,iN]
         |v x=>
           simp only[St.ev,zAb]at hu;subst hu;simp[Act'.kind,iN]
        refine⟨_,_,fun h=>absurd h hne,fun h=>absurd h hn2,h5,fun σ' K' hg hf hK'=>?_⟩;simp only[post,if_neg hne]at hK';simp only[Act'.rds]at hg;have he:=hf.heq (hk2 y e sz by');have ha':σ'.rws? id=some (e1,e2,sz2,rows):=by simp only[St.rws?,he];exact ha
        simp only[ah,hg.r.ev,hv,hbad,zBe,if_false,af,hg.l.ev,hu,ha',hr];rw[he];simp only[hl];exact⟨h0,h1,h2,h3,h4,hK'⟩
       ·exact h.elim
      ·exact h.elim
     ·exact h.elim
    ·exact h.elim
   ·exact h.elim
 |callH f xs=>
   simp only[ah]at h;split at h
   ·rename_i vs hvs
    obtain⟨ps,h1,r,H',h2,h3,h4⟩|⟨r,hz,h4⟩:=h
    ·refine⟨_,_,fun h=>absurd h (by simp[Act'.kind]),fun h=>absurd h (by simp[Act'.kind]),h4,fun σ' K' ha hf hK'=>?_⟩
     simp only[Act'.rds]at ha;have he:=hf.heq (show 2<=(Act'.callH f xs).kind by simp[Act'.kind])
     simp only[ah,ha.evs,hvs];refine .inl ⟨ps,by rw[Do he];exact h1,r,H',by rw[he];exact h2,by rw[he];exact h3,?_⟩
     rw[he,Rl he];exact hK'
    ·refine⟨σ.h,r,fun _=>rfl,fun _ _ _ h=>h,h4,fun σ' K' ha hf hK'=>?_⟩
     simp only[Act'.rds]at ha;have he:=hf.heq (show 2<=(Act'.callH f xs).kind by simp[Act'.kind])
     simp only[ah,ha.evs,hvs];refine .inr ⟨r,?_,?_⟩
     ·unfold Pk St.pl? at hz⊢
      rwa[he]
     ·rw[<-he]at hK'
      exact hK'
   ·exact h.elim
 |inv tbl x xs=>
   simp only[ah]at h;split at h
   ·rename_i t v vs hx hvs
    split at h
    ·rename_i f hf'
     split at h
     ·rename_i us hus
      obtain⟨r,h1,h3⟩:=h;refine⟨σ.h,r,fun _=>rfl,fun _ _ _ h=>h,h3,fun σ' K' ha hf hK'=>?_⟩;simp only[Act'.rds]at ha;have he:=hf.heq (show 2<=(Act'.inv tbl x xs).kind by simp[Act'.kind])
      simp only[ah,ha.l.ev,hx,ha.r.evs,hvs,hf',he,hus];refine zCj r ⟨h1,?_⟩
      have:post (Act'.inv tbl x xs).kind σ' σ.h d r=St.put σ' d r:=by
       simp only[post,Act'.kind,show ¬(3<=1) by omega,if_false,<-he]
      rw[this]at hK';exact hK'
     ·exact h.elim
    ·exact h.elim
   ·exact h.elim
 |ivp tbl x xs=>exact(show False from h).elim
 |rgs x=>
   simp only[ah,af]at h;split at h
   ·rename_i s hs
    refine⟨_,_,fun h=>absurd h (by simp[Act'.kind]),fun _ id ob h=>cu h,h,fun σ' K' ha hf hK'=>?_⟩
    simp only[Act'.rds]at ha;simp only[ah,af,ha.ev,hs];rw[hf.heq (by simp[Act'.kind])]
    exact hK'
   ·exact h.elim
 |nxs x=>
   simp only[ah,af]at h;split at h
   ·rename_i id n hs
    split at h
    ·rename_i s p hi
     split at h
     ·rename_i hp
      refine⟨_,_,fun h=>absurd h (by simp[Act'.kind]),fun h=>absurd h (by simp[Act'.kind]),h,fun σ' K' ha hf hK'=>?_⟩
      simp only[Act'.rds]at ha;have he:=hf.heq (show 2<=(Act'.nxs x).kind by simp[Act'.kind])
      have hi':σ'.itr? id=some (s,p):=by simp only[St.itr?,he];exact hi
      simp only[ah,af,ha.ev,hs,hi',if_pos hp,he];exact hK'
     ·rename_i hp
      refine⟨σ.h,_,fun h=>absurd h (by simp[Act'.kind]),fun h=>absurd h (by simp[Act'.kind]),h,fun σ' K' ha hf hK'=>?_⟩
      simp only[Act'.rds]at ha;have he:=hf.heq (show 2<=(Act'.nxs x).kind by simp[Act'.kind])
      have hi':σ'.itr? id=some (s,p):=by simp only[St.itr?,he];exact hi
      simp only[ah,af,ha.ev,hs,hi',if_neg hp];simp only[post,show ¬(Act'.nxs x).kind<=1 by simp[Act'.kind],if_false]at hK'
      rw[<-he]at hK';exact hK'
    ·exact h.elim
   ·exact h.elim
 |yld g xs=>
   simp only[ah,af]at h;split at h
   ·rename_i id n vs hg hvs
    split at h
    ·rename_i v b l us hgh hus
     obtain⟨h1,h2,h3⟩:=h;refine⟨_,_,fun h=>absurd h (by simp[Act'.kind]),fun h=>absurd h (by simp[Act'.kind]),h3,fun σ' K' ha hf hK'=>?_⟩
     simp only[Act'.rds]at ha;have he:=hf.heq (show 2<=(Act'.yld g xs).kind by simp[Act'.kind])
     have hgh':σ'.gh? id=some ((v,b)::l):=by simp only[St.gh?,he];exact hgh
     simp only[ah,af,ha.l.ev,hg,ha.r.evs,hvs,hgh',he,hus];exact⟨h1,h2,hK'⟩
    ·exact h.elim
   ·exact h.elim
 |trc x hi sz=>exact(show False from h).elim
 |ltr e sz xs=>
   simp only[ah,af]at h;split at h
   ·rename_i vs hvs
    split at h
    ·rename_i us hus
     obtain⟨h1,h2,h3⟩:=h;rw[R5]at h3;refine⟨(σ.kill (am vs)).h++[some (Ob.arr e sz us)],.ref (σ.kill (am vs)).h.length us.length,fun h=>absurd h (by simp[Act'.kind]),fun h=>absurd h (by simp[Act'.kind]),h3,fun σ' K' ha hf hK'=>?_⟩
     simp only[Act'.rds]at ha;have he:=hf.heq (show 2<=(Act'.ltr e sz xs).kind by simp[Act'.kind])
     have hk:(σ'.kill (am vs)).h=(σ.kill (am vs)).h:=zg _ he;simp only[ah,af,ha.evs,hvs,he,hus,hk,R5];exact⟨h1,h2,hK'⟩
    ·rename_i hpn
     unfold EH at h;split at h
     ·rename_i ms us hms hus
      obtain⟨h1,h2,h3,h4⟩:=h;refine⟨_,_,fun h=>absurd h (by simp[Act'.kind]),fun h=>absurd h (by simp[Act'.kind]),h4,fun σ' K' ha hf hK'=>?_⟩
      simp only[Act'.rds]at ha;have he:=hf.heq (show 2<=(Act'.ltr e sz xs).kind by simp[Act'.kind])
      have hms':σ'.pl?=some ms:=by simp only[St.pl?,he];exact hms
      simp only[ah,af,ha.evs,hvs,he,hpn,EH,hms',hus];refine⟨h1,h2,h3,?_⟩;simp only[St.setP,he];exact hK'
     ·exact h.elim
   ·exact h.elim
 |apz y e sz by'=>
   simp only[ah,af]at h;split at h
   ·rename_i v hv
    split at h
    ·rename_i sz' l hl
     obtain⟨h1,h2,h3⟩:=h;refine⟨σ.h,.seq sz l,fun _=>rfl,fun _ _ _ h=>h,h3,fun σ' K' ha hf hK'=>?_⟩;simp only[Act'.rds]at ha;simp only[ah,af,ha.ev,hv,(hf.ext rfl).src hl];exact⟨h1,h2,hK'⟩
    ·exact h.elim
   ·exact h.elim
 |sbq y=>
   simp only[ah,af]at h;split at h
   ·rename_i s ms hs hms
    refine⟨_,_,fun h=>absurd h (by simp[Act'.kind]),fun h=>absurd h (by simp[Act'.kind]),h.2,fun σ' K' ha hf hK'=>?_⟩
    simp only[Act'.rds]at ha;have he:=hf.heq (show 2<=(Act'.sbq y).kind by simp[Act'.kind])
    have hms':σ'.pl?=some ms:=by simp only[St.pl?,he];exact hms
    simp only[ah,af,ha.ev,hs,hms'];refine⟨h.1,?_⟩;simp only[St.setP,he];exact hK'
   ·exact h.elim
 |aps x y e=>
   simp only[ah,af]at h;split at h
   ·rename_i k j n i0 o0 s hx hs
    unfold xo at h;split at h
    ·rename_i ms hms
     split at h
     ·rename_i e0 s0 hj
      obtain⟨h1,h2,h3,h4,h5⟩:=h;refine⟨_,_,fun h=>absurd h (by simp[Act'.kind]),fun h=>absurd h (by simp[Act'.kind]),h5,fun σ' K' ha hf hK'=>?_⟩
      simp only[Act'.rds]at ha;have he:=hf.heq (show 2<=(Act'.aps x y e).kind by simp[Act'.kind])
      have hms':σ'.pl?=some ms:=by simp only[St.pl?,he];exact hms
      simp only[ah,af,ha.l.ev,hx,ha.r.ev,hs,xo,hms',hj];refine⟨h1,h2,h3,h4,?_⟩;simp only[St.setP,he];exact hK'
     ·exact h.elim
    ·exact h.elim
   ·exact h.elim
 |apb x y e=>
   simp only[ah,af]at h;split at h
   ·rename_i k j n i0 o0 v hx hs
    split at h
    ·rename_i s hsrc
     unfold xo at h;split at h
     ·rename_i ms hms
      split at h
      ·rename_i e0 s0 hj
       obtain⟨h1,h2,h3,h4,h5⟩:=h;refine⟨_,_,fun h=>absurd h (by simp[Act'.kind]),fun h=>absurd h (by simp[Act'.kind]),h5,fun σ' K' ha hf hK'=>?_⟩
       simp only[Act'.rds]at ha;have he:=hf.heq (show 2<=(Act'.apb x y e).kind by simp[Act'.kind])
       have hms':σ'.pl?=some ms:=by simp only[St.pl?,he];exact hms
       have hsrc':L0 σ' v=some s:=by simp only[L0,he];exact hsrc
       simp only[ah,af,ha.l.ev,hx,ha.r.ev,hs,hsrc',xo,hms',hj];refine⟨h1,h2,h3,h4,?_⟩;simp only[St.setP,he];exact hK'
      ·exact h.elim
     ·exact h.elim
    ·exact h.elim
   ·exact h.elim
 |alb t e z=>
   simp only[ah,af]at h;split at h
   ·rename_i ms hms
    refine⟨_,_,fun h=>absurd h (by simp[Act'.kind]),fun h=>absurd h (by simp[Act'.kind]),h.2,fun σ' K' ha hf hK'=>?_⟩
    have he:=hf.heq (show 2<=(Act'.alb t e z).kind by simp[Act'.kind])
    have hms':σ'.pl?=some ms:=by simp only[St.pl?,he];exact hms
    simp only[ah,af,hms'];refine⟨h.1,?_⟩;simp only[St.setP,he];exact hK'
   ·exact h.elim
 |usd x=>
   simp only[ah,af]at h;split at h
   ·rename_i k j n i0 o0 ms hx hms
    split at h
    ·rename_i e0 s hj
     obtain⟨h1,h2,h3⟩:=h;refine⟨σ.h,_,fun _=>rfl,fun _ _ _ h=>h,h3,fun σ' K' ha hf hK'=>?_⟩;simp only[Act'.rds]at ha;simp only[ah,af,ha.ev,hx,(hf.ext rfl).pl hms,hj];exact⟨h1,h2,hK'⟩
    ·exact h.elim
   ·exact h.elim
 |ust p n e=>
   simp only[ah,af]at h;split at h
   ·rename_i m hp hn
    refine⟨σ.h,_,fun h=>absurd h (by simp[Act'.kind]),fun h=>absurd h (by simp[Act'.kind]),h.2,fun σ' K' ha hf hK'=>?_⟩
    simp only[Act'.rds]at ha;have he:=hf.heq (show 2<=(Act'.ust p n e).kind by simp[Act'.kind])
    simp only[ah,af,ha.l.ev,hp,ha.r.ev,hn];refine⟨h.1,?_⟩;simp only[post,show ¬(Act'.ust p n e).kind<=1 by simp[Act'.kind],if_false]at hK'
    rw[<-he]at hK';exact hK'
   ·rename_i k j m i0 o0 q hp hn
    split at h
    ·rename_i ms hms
     split at h
     ·rename_i e0 s hj
      obtain⟨h1,h2,h3,h4,h5,h6,h7,h8,h9⟩:=h;refine⟨_,_,fun h=>absurd h (by simp[Act'.kind]),fun h=>absurd h (by simp[Act'.kind]),h9,fun σ' K' ha hf hK'=>?_⟩
      simp only[Act'.rds]at ha;have he:=hf.heq (show 2<=(Act'.ust p n e).kind by simp[Act'.kind])
      have hms':σ'.pl?=some ms:=by simp only[St.pl?,he];exact hms
      simp only[ah,af,ha.l.ev,hp,ha.r.ev,hn,hms',hj];refine⟨h1,h2,h3,h4,h5,h6,h7,h8,?_⟩;simp only[St.setP,he];exact hK'
     ·exact h.elim
    ·exact h.elim
   ·exact h.elim
 |del kt x k=>
   simp only[ah,af]at h;split at h
   ·rename_i id n kv h1 h2
    split at h
    ·rename_i kt' l hm
     obtain⟨g1,g2,g5⟩:=h;refine⟨_,_,fun h=>absurd h (by simp[Act'.kind]),fun h=>absurd h (by simp[Act'.kind]),g5,fun σ' K' hg hf hK'=>?_⟩
     simp only[Act'.rds]at hg;have he:=hf.heq (show 2<=(Act'.del kt x k).kind by simp[Act'.kind])
     have hm':σ'.mp? id=some (kt',l):=by simp only[St.mp?,he];exact hm
     simp only[ah,af,hg.l.ev,h1,hg.r.ev,h2,hm'];rw[he];exact⟨g1,g2,hK'⟩
    ·exact h.elim
   ·exact h.elim
 |alq z=>
   simp only[ah,af]at h;split at h
   ·rename_i ms z' hms hz
    refine⟨_,_,fun h=>absurd h (by simp[Act'.kind]),fun h=>absurd h (by simp[Act'.kind]),h,fun σ' K' ha hf hK'=>?_⟩
    have he:=hf.heq (show 2<=(Act'.alq z).kind by simp[Act'.kind])
    have hms':σ'.pl?=some ms:=by simp only[St.pl?,he];exact hms
    simp only[ah,af,hms',hz];simp only[St.setP,he];exact hK'
   ·exact h.elim
 |cvb x=>
   simp only[ah,af]at h;split at h
   ·rename_i id n hv
    split at h
    ·rename_i e' sz l ha
     obtain⟨h1,h2,h3,h4⟩:=h;refine⟨_,_,fun h=>absurd h (by simp[Act'.kind]),fun h=>absurd h (by simp[Act'.kind]),h4,fun σ' K' hg hf hK'=>?_⟩
     simp only[Act'.rds]at hg;have he:=hf.heq (show 2<=(Act'.cvb x).kind by simp[Act'.kind])
     have ha':σ'.arr? id=some (e',sz,l):=by simp only[St.arr?,he];exact ha
     simp only[ah,af,hg.ev,hv,ha'];rw[he];exact⟨h1,h2,h3,hK'⟩
    ·exact h.elim
   ·exact h.elim
 |bxq x=>
   simp only[ah,af]at h;split at h
   ·rename_i p hp
    obtain⟨pσ,pv⟩:=p
    have hr:pσ.r=σ.r:=by
     simp only[GG]at hp;split at hp
     ·split at hp
      ·split at hp
       ·cases hp;rfl
       ·cases hp
      ·cases hp
     ·cases hp
    have hr':pσ=⟨σ.r,pσ.h⟩:=by rw[<-hr]
    simp only at h;rw[hr']at h;refine⟨_,_,fun h=>absurd h (by simp[Act'.kind]),fun h=>absurd h (by simp[Act'.kind]),h,fun σ' K' ha hf hK'=>?_⟩
    have he:=hf.heq (show 2<=(Act'.bxq x).kind by simp[Act'.kind])
    simp only[Act'.rds]at ha
    have hb:GG σ' x=(GG σ x).map fun q=>({ q.1 with r:=σ'.r },q.2):=by
     have e2:σ'.pl?=σ.pl?:=by simp only[St.pl?,he]
     simp only[GG,ha.ev,e2];cases σ.ev x with
     |none=>rfl
     |some v=>
       cases σ.pl? with
       |none=>rfl
       |some ms=>
         by_cases hn:nt v=true
         ·simp only[if_pos hn]
          cases qt (cl v)with
          |none=>rfl
          |some z=>simp[St.setP,he]
         ·simp only[if_neg hn]
          rfl
    simp only[ah,af,hb,hp,zBd];exact hK'
   ·exact h.elim
 |mkq e sz by' z n=>
   simp only[ah,af]at h;split at h
   ·rename_i k m ms z' hn hms hz
    obtain⟨h1,h2,h3⟩:=h;refine⟨_,_,fun h=>absurd h (by simp[Act'.kind]),fun h=>absurd h (by simp[Act'.kind]),h3,fun σ' K' ha hf hK'=>?_⟩
    simp only[Act'.rds]at ha;have he:=hf.heq (show 2<=(Act'.mkq e sz by' z n).kind by simp[Act'.kind])
    have hms':σ'.pl?=some ms:=by simp only[St.pl?,he];exact hms
    simp only[ah,af,ha.ev,hn,hms',hz];refine⟨h1,h2,?_⟩;simp only[St.setP,he];exact hK'
   ·exact h.elim
 |mkp kt=>
   simp only[ah,af]at h;refine⟨_,_,fun h=>absurd h (by simp[Act'.kind]),fun _ id ob h=>cu h,h,fun σ' K' ha hf hK'=>?_⟩
   simp only[ah,af];rw[hf.heq (by simp[Act'.kind])]
   exact hK'
 |mup kt x k v=>
   simp only[ah,af]at h;split at h
   ·rename_i id n kv u h1 h2 h3
    split at h
    ·rename_i kt' l u' hm hp
     obtain⟨g1,g2,g3,g4,g5⟩:=h;refine⟨_,_,fun h=>absurd h (by simp[Act'.kind]),fun h=>absurd h (by simp[Act'.kind]),g5,fun σ' K' hg hf hK'=>?_⟩
     simp only[Act'.rds]at hg;have he:=hf.heq (show 2<=(Act'.mup kt x k v).kind by simp[Act'.kind])
     have hm':σ'.mp? id=some (kt',l):=by simp only[St.mp?,he];exact hm
     simp only[ah,af,hg.l.ev,h1,hg.r.l.ev,h2,hg.r.r.ev,h3,hm'];rw[he];simp only[hp];exact⟨g1,g2,g3,g4,hK'⟩
    ·exact h.elim
   ·exact h.elim
 |_=>
   simp only[ah,af]at h;split at h
   ·rename_i v hv
    exact Xo (by simp only[Act'.kind];decide) hv h
   ·exact h.elim
theorem kw{x:AOp}(h:aM Φ x K σ):Pe (aM Φ x) x.a.kind x.rds x.d σ K:=by
 have sk:(∀σ'(K':St->Prop),Agr σ σ' x.rds->K' (σ'.put x.d (.tup []))->aM Φ x K' σ')->K (σ.put x.d (.tup []))->Pe (aM Φ x) 0 x.rds x.d σ K:=
  fun h1 h2=>⟨σ.h,.tup [],fun _=>rfl,fun _ _ _ h=>h,h2,fun σ' K' ha _ hK'=>h1 σ' K' ha hK'⟩
 have up:∀{T:(St->Prop)->St->Prop},Pe T 0 x.rds x.d σ K->Pe T x.a.kind x.rds x.d σ K:=by
  rintro T ⟨h',v,h1,_,h3,h4⟩;have e:=h1 (by decide)
  subst e;refine⟨σ.h,v,fun _=>rfl,fun _ _ _ h=>h,h3,fun σ' K' ha hf hK'=>h4 σ' K' ha (.inl rfl) ?_⟩;simp only[post,zCa,if_true]at hK'⊢;split at hK'
  ·exact hK'
  ·rw[hf.heq (by omega)]
   exact hK'
 have lift:∀{T:(St->Prop)->St->Prop}{rs:List Nat},Pe (ah Φ x.d x.a) x.a.kind rs x.d σ K->(∀t,t∈rs->t∈x.rds)->(∀σ' K',Agr σ σ' x.rds->ah Φ x.d x.a K' σ'->T K' σ')->Pe T x.a.kind x.rds x.d σ K:=by
  rintro T rs ⟨h',v,h1,h2,h3,h4⟩ hs hT;exact⟨h',v,h1,h2,h3,fun σ' K' ha hf hK'=>hT _ _ ha (h4 σ' K' (ha.sub hs) hf hK')⟩
 have hsub:∀t,t∈x.a.rds->t∈x.rds:=fun t ht=>zCh _ ht;unfold aM at h;cases hg:x.g with
 |none=>
   simp only[hg]at h;refine lift (Ba h) hsub fun σ' K' _ h'=>?_;unfold aM;simp only[hg];exact h'
 |some tb=>
   obtain⟨t,b⟩:=tb;have ht:t∈x.rds:=by simp[AOp.rds,hg]
   simp only[hg]at h;split at h
   ·rename_i y hy
    have hgo:∀σ'(K':St->Prop),Agr σ σ' x.rds->y=b->ah Φ x.d x.a K' σ'->aM Φ x K' σ':=by
     intro σ' K' ha hyb h';subst hyb;unfold aM;simp only[hg,ha t ht,hy];cases y<;>simp[Br,h']
    have hsk:∀σ'(K':St->Prop),Agr σ σ' x.rds->y≠b->K' (σ'.put x.d (.tup []))->aM Φ x K' σ':=by
     intro σ' K' ha hyb h';unfold aM;simp only[hg,ha t ht,hy];cases y<;>cases b<;>first|exact absurd rfl hyb|simp[Br,h']
    by_cases hyb:y=b
    ·have h':ah Φ x.d x.a K σ:=by subst hyb;cases y<;>simp[Br]at h<;>exact h
     exact lift (Ba h') hsub fun σ' K' ha h''=>hgo σ' K' ha hyb h''
    ·have h':K (σ.put x.d (.tup [])):=by cases y<;>cases b<;>first|exact absurd rfl hyb|(simp[Br]at h;exact h)
     exact up (sk (fun σ' K' ha h''=>hsk σ' K' ha hyb h'') h')
   ·rename_i hy
    refine up (sk (fun σ' K' ha h''=>?_) h);unfold aM;simp only[hg,ha t ht,hy];exact h''
   ·exact h.elim
def Eqv(σ τ:St):Prop:=τ.h=σ.h/\∀t,lk τ.r t=lk σ.r t
def Inv(R:St->Prop):Prop:=∀σ τ,Eqv σ τ->R σ->R τ
theorem Jt(σ:St)(h':List (Option Ob))(d:Option Nat)(v:V)(t:Nat):lk (St.put { σ with h:=h' } d v).r t=if d=some t then some v else lk σ.r t:=by
 cases d with
 |none=>simp[St.put]
 |some k=>simp only[St.put,lk,zAb]
theorem zk(σ:St)(d:Option Nat)(v:V):(σ.put d v).h=σ.h:=by cases d<;>rfl
theorem Vn{x:AOp}{R:St->Prop}(hR:Inv R):Inv (aM Φ x R):=by
 intro σ τ he h;obtain⟨h',v,h1,h2,h3,h4⟩:=kw h;refine h4 τ R (fun t _=>he.2 t) (.inr (.inr he.1)) (hR _ _ ⟨?_,fun t=>?_⟩ h3)
 ·simp only[post,zk]
  split
  ·rename_i hk;rw[h1 hk];exact he.1
  ·rfl
 ·simp only[post,Jt,he.2]
def yC(x y:AOp):Bool:=
 (match x.d with
  |some d=>!(gZ d y.rds)&&decide (y.d≠some d)
  |none=>true)&&
 (match y.d with
  |some d=>!(gZ d x.rds)
  |none=>true)&&
 (x.a.kind == 0||y.a.kind == 0||(x.a.kind == 1&&decide (y.a.kind<=2)))
theorem O2{x y:AOp}(h:yC x y=true):
 (∀d,x.d=some d->d ∉ y.rds/\y.d≠some d)/\(∀d,y.d=some d->d ∉ x.rds)/\(x.a.kind=0\/y.a.kind=0\/(x.a.kind=1/\y.a.kind<=2)):=by
 simp only[yC,zAd]at h;obtain⟨⟨h1,h2⟩,h3⟩:=h;refine⟨fun d hd=>?_,fun d hd=>?_,by simpa[or_assoc]using h3⟩
 ·simp only[hd,zAd,zBi,decide_eq_true_eq]at h1
  exact⟨fun hm=>by rw[iZ.2 hm]at h1;simp at h1,h1.2⟩
 ·simp only[hd,zBi]at h2
  exact fun hm=>by rw[iZ.2 hm]at h2;simp at h2
theorem SF{x y:AOp}(hap:yC x y=true){R:St->Prop}(hR:Inv R)(h:aM Φ x (aM Φ y R) σ):aM Φ y (aM Φ x R) σ:=by
 obtain⟨a1,a2,a3⟩:=O2 hap;obtain⟨hx,vx,x1,x2,x3,x4⟩:=kw h;obtain⟨hy,vy,y1,y2,y3,y4⟩:=kw x3;rw[zk]at y1 y2
 have key:Eqv (St.put { (St.put { σ with h:=hx } x.d vx)with h:=hy } y.d vy) (post x.a.kind (post y.a.kind σ hy y.d vy) hx x.d vx)->aM Φ y (aM Φ x R) σ:=by
  intro he;refine y4 σ _ ?_ ?_ ?_
  ·intro t ht
   rw[Jt];split
   ·rename_i hd;exact absurd ht (a1 t hd).1
   ·rfl
  ·rcases a3 with h|h|h
   ·refine .inr (.inr ?_);rw[zk];exact(x1 (by omega)).symm
   ·exact .inl h
   ·refine .inr (.inr ?_);rw[zk];exact(x1 (by omega)).symm
  ·refine x4 _ _ ?_ ?_ (hR _ _ he y3)
   ·intro t ht
    simp only[post,Jt];split
    ·rename_i hd;exact absurd ht (a2 t hd)
    ·rfl
   ·rcases a3 with h|h|h
    ·exact .inl h
    ·refine .inr (.inr ?_)
     simp only[post,zk,h,zCa,if_true]
    ·by_cases hk:y.a.kind<=1
     ·refine .inr (.inr ?_)
      simp only[post,zk,if_pos hk]
     ·refine .inr (.inl ⟨h.1,?_⟩)
      intro id ob hid;simp only[post,zk,if_neg hk];exact y2 (by omega) id ob (by rw[x1 (by omega)];exact hid)
 apply key;constructor
 ·simp only[post,zk]
  rcases a3 with h|h|h
  ·rw[if_pos (by omega)]
   split
   ·rename_i hk;rw[y1 hk,x1 (by omega)]
   ·rfl
  ·simp only[h,zCa,if_true]
   rw[y1 (by omega)]
   split
   ·rename_i hk;rw[x1 hk]
   ·rfl
  ·rw[if_pos (by omega)]
   split
   ·rename_i hk;rw[y1 hk,x1 (by omega)]
   ·rfl
 ·intro t
  simp only[post,Jt];by_cases hxd:x.d=some t
  ·rw[if_pos hxd,if_neg (a1 t hxd).2,if_pos hxd]
  ·simp only[if_neg hxd]
end
end Go.Abs
end
section
namespace Go.Abs
open Go.RowKit
section
variable{P:Program}{N:Nat}{M0:Mem}{B:Bas}{w0:World}{Φ:Ctr}
theorem ku{x:AOp}{σ:St}{K K':St->Prop}(h:aM Φ x K σ)(hk:∀τ,K τ->K' τ):aM Φ x K' σ:=by
 obtain⟨h',v,h1,h2,h3,h4⟩:=kw h;refine h4 σ K' (fun _ _=>rfl) (.inr (.inr rfl)) (hk _ ?_);simp only[post];split
 ·rename_i hle;rw[h1 hle]at h3;exact h3
 ·exact h3
mutual
theorem My:∀{v u:V},pur [] v=some u->aD v=[]/\∀h,pur h v=some u
 | .nil sz,_,hv=>⟨rfl,fun h=>by simpa only[pur]using hv⟩
 | .ref id n,_,hv=>by simp[pur,pur1]at hv
 | .strct cs,_,hv=>by
   simp only[pur,zAc]at hv;obtain⟨us,h1,h2⟩:=hv;obtain⟨k1,k2⟩:=ga h1;exact⟨by simpa only[aD]using k1,fun h=>by simp only[pur,k2 h,zBd,h2]⟩
 | .tup cs,_,hv=>by
   simp only[pur,zAc]at hv;obtain⟨us,h1,h2⟩:=hv;obtain⟨k1,k2⟩:=ga h1;exact⟨by simpa only[aD]using k1,fun h=>by simp only[pur,k2 h,zBd,h2]⟩
 | .fn f a b,_,hv=>by
   simp only[pur]at hv;split at hv
   ·rename_i a' b' h1 h2
    obtain⟨k1,k2⟩:=ga h1;obtain⟨k3,k4⟩:=ga h2;exact⟨by simp only[aD,k1,k3,zDf],fun h=>by simp only[pur,k2 h,k4 h];exact hv⟩
   ·cases hv
 | .iface t x,_,hv=>by
   simp only[pur,zAc]at hv;obtain⟨us,h1,h2⟩:=hv;obtain⟨k1,k2⟩:=My h1;exact⟨by simpa only[aD]using k1,fun h=>by simp only[pur,k2 h,zBd,h2]⟩
 | .ptr _ _,_,hv=>by simp only[pur]at hv;cases hv
 | .eptr _ _ _ _,_,hv=>by simp only[pur]at hv;cases hv
 | .int _ _,_,hv=>⟨rfl,fun h=>by simpa only[pur]using hv⟩
 | .bool _,_,hv=>⟨rfl,fun h=>by simpa only[pur]using hv⟩
 | .str _,_,hv=>⟨rfl,fun h=>by simpa only[pur]using hv⟩
 | .seq _ _,_,hv=>⟨rfl,fun h=>by simpa only[pur]using hv⟩
 | .fseq _ _,_,hv=>⟨rfl,fun h=>by simpa only[pur]using hv⟩
 | .sptr _ _,_,hv=>⟨rfl,fun h=>by simpa only[pur]using hv⟩
 | .nilptr,_,hv=>⟨rfl,fun h=>by simpa only[pur]using hv⟩
 | .nilfn,_,hv=>⟨rfl,fun h=>by simpa only[pur]using hv⟩
 | .nilmp,_,hv=>⟨rfl,fun h=>by simpa only[pur]using hv⟩
 | .niliface,_,hv=>⟨rfl,fun h=>by simpa only[pur]using hv⟩
 | .junk,_,hv=>⟨rfl,fun h=>by simpa only[pur]using hv⟩
theorem ga:∀{v u:List V},purs [] v=some u->am v=[]/\∀h,purs h v=some u
 |[],_,hv=>⟨rfl,fun h=>by simpa only[purs]using hv⟩
 |v::vs,_,hv=>by
   simp only[purs]at hv;split at hv
   ·rename_i a' b' h1 h2
    obtain⟨k1,k2⟩:=My h1;obtain⟨k3,k4⟩:=ga h2;exact⟨by simp only[am,k1,k3,zDf],fun h=>by simp only[purs,k2 h,k4 h];exact hv⟩
   ·cases hv
end
theorem uf{d:Option Nat}{a:Act'}{K:St->Prop}{σ:St}(h:ah Φ d a K σ):af Φ d a K σ:=by
 cases a with
 |lit e0 sz xs=>
   simp only[ah]at h;split at h
   ·rename_i vs hvs
    split at h
    ·rename_i us hus
     obtain⟨k1,k2⟩:=ga hus;simp only[af,hvs,k2 σ.h,k1,St.kill];exact h
    ·exact h.elim
   ·exact h.elim
 |call f xs=>
   simp only[ah]at h;split at h
   ·rename_i vs hvs
    split at h
    ·rename_i us hus
     obtain⟨r,h1,h3⟩:=h;simp only[af,hvs,hus];exact⟨r,.inl ⟨h1,fun _=>h3⟩⟩
    ·exact h.elim
   ·exact h.elim
 |callH f xs=>
   simp only[ah]at h;split at h
   ·rename_i vs hvs
    simp only[af,hvs];obtain⟨ps,h1,r,H',h2,h3,h4⟩|⟨r,hz,h4⟩:=h
    ·exact .inl ⟨ps,h1,r,H',h2,h3,fun _ _=>h4⟩
    ·exact .inr (.inr (.inl ⟨r,hz,fun _=>h4⟩))
   ·exact h.elim
 |inv tbl x xs=>
   simp only[ah]at h;split at h
   ·rename_i t v vs hx hvs
    split at h
    ·rename_i f hf
     split at h
     ·rename_i us hus
      obtain⟨r,h1,h3⟩:=h;simp only[af,hx,hvs,hf,hus];exact⟨r,.inl ⟨h1,fun _=>h3⟩⟩
     ·exact h.elim
    ·exact h.elim
   ·exact h.elim
 |ivp tbl x xs=>exact(show False from h).elim
 |trc x hi sz=>exact(show False from h).elim
 |callv g xs=>
   simp only[ah]at h;split at h
   ·rename_i f a b vs hg hvs
    split at h
    ·rename_i us hus
     obtain⟨r,h1,h3⟩:=h;simp only[af,hg,hvs,hus];exact⟨r,.inl ⟨h1,fun _=>h3⟩⟩
    ·exact h.elim
   ·exact h.elim
 |app x y e sz by'=>
   simp only[ah]at h;split at h
   ·split at h
    ·exact h.elim
    ·exact h
   ·exact h.elim
 |_=>exact h
theorem Vl{x:AOp}{K:St->Prop}{σ:St}(h:aM Φ x K σ):wop Φ x K σ:=by
 unfold aM at h;unfold wop;split at h
 ·exact uf h
 ·split at h
  ·split
   ·rename_i hb;rw[if_pos hb]at h;exact⟨fun hy=>uf (h.1 hy),h.2⟩
   ·rename_i hb;rw[if_neg hb]at h;exact⟨h.1,fun hy=>uf (h.2 hy)⟩
  ·exact h
  ·exact h
def vg(Φ:Ctr)(ops:Array Oper)(xs:List AOp)(K:St->Prop):Nat->Array Bool->St->Prop
 |0,listed,σ=>Region.ready .any ops listed=[]/\K σ
 |f+1,listed,σ=>(Region.ready .any ops listed=[]->K σ)/\∀i∈Region.ready .any ops listed,∃x,xs[i]?=some x/\aM Φ x (vg Φ ops xs K f (listed.setIfInBounds i true)) σ
def RD(Φ:Ctr)(ops:Array Oper)(xs:List AOp)(K:St->Prop):Nat->Array Bool->St->Prop
 |0,listed,σ=>Region.ready .any ops listed=[]/\K σ
 |f+1,listed,σ=>(Region.ready .any ops listed=[]->K σ)/\∀i∈Region.ready .any ops listed,∃x,xs[i]?=some x/\wop Φ x (RD Φ ops xs K f (listed.setIfInBounds i true)) σ
variable{ops:Array Oper}{xs:List AOp}{K:St->Prop}
theorem GQ(hK:Inv K):∀(f:Nat)(listed:Array Bool),Inv (vg Φ ops xs K f listed)
 |0,listed=>fun σ τ he h=>⟨h.1,hK σ τ he h.2⟩
 |f+1,listed=>fun σ τ he h=>⟨fun h0=>hK σ τ he (h.1 h0),fun i hi=>by
   obtain⟨x,hx,hw⟩:=h.2 i hi;exact⟨x,hx,Vn (GQ hK f _) σ τ he hw⟩⟩
def u7(ops:Array Oper)(listed:Array Bool):Prop:=∀j oj,ops[j]?=some oj->listed.getD j false=true->∀e∈oj.after,Region.binds .any e=true->listed.getD e.on false=true
def AJ(anc:List Nat)(j i:Nat):Bool:=decide (i<j)&&zDd (anc.getD j 0) i
def Io(ops:Array Oper)(anc:List Nat):Prop:=∀j i oj,ops[j]?=some oj->AJ anc j i=true->∃e∈oj.after,Region.binds .any e=true/\e.on<j/\(e.on=i\/AJ anc e.on i=true)
theorem u7.set{listed:Array Bool}{i:Nat}(h:u7 ops listed)(hi:i∈Region.ready .any ops listed):u7 ops (listed.setIfInBounds i true):=by
 obtain⟨_,oi,hoi,hall⟩:=mem_ready.1 hi;intro j oj hj hl e he hb;by_cases hij:i=j
 ·subst hij
  have:oj=oi:=Option.some.inj (hj.symm.trans hoi);subst this;exact getD_set_true (hall e he hb)
 ·rw[getD_set_ne false hij]at hl
  exact getD_set_true (h j oj hj hl e he hb)
theorem Io.listed{anc:List Nat}(ha:Io ops anc){listed:Array Bool}(hc:u7 ops listed){i:Nat}:∀(j:Nat)(oj:Oper),ops[j]?=some oj->(∀e∈oj.after,Region.binds .any e=true->listed.getD e.on false=true)->
 AJ anc j i=true->(∀e o',e<ops.size->ops[e]?=some o'->True)->(∀e∈oj.after,Region.binds .any e=true->e.on<j->∃o',ops[e.on]?=some o')->listed.getD i false=true:=by
 intro j
 induction j using zCe with
 |_ j ih=>
   intro oj hj hp hanc _ hex;obtain⟨e,he,hb,hlt,h⟩:=ha j i oj hj hanc;have hl:=hp e he hb;rcases h with h|h
   ·rw[<-h];exact hl
   ·obtain⟨o',ho'⟩:=hex e he hb hlt
    refine ih e.on hlt o' ho' (fun e' he' hb'=>hc e.on o' ho' hl e' he' hb') h (fun _ _ _ _=>trivial) (fun e' he' hb' hlt'=>?_)
    have hs:e'.on<ops.size:=by
     have:=(zAg.1 ho').1;omega
    exact⟨ops[e'.on],by simp[hs]⟩
theorem yK{anc:List Nat}(ha:Io ops anc)(hK:Inv K){i:Nat}{x:AOp}(hi:xs[i]?=some x):
 ∀(f:Nat)(listed:Array Bool)(σ:St),u7 ops listed->
   (∀j y,xs[j]?=some y->j≠i->listed.getD j true=false->AJ anc j i=false->yC x y=true)->
   i∈Region.ready .any ops listed->aM Φ x (vg Φ ops xs K f (listed.setIfInBounds i true)) σ->vg Φ ops xs K (f+1) listed σ:=by
 intro f
 induction f with
 |zero=>
   intro listed σ _ _ hr H;refine⟨fun h=>(by rw[h]at hr;cases hr),fun j hj=>?_⟩
   by_cases hji:j=i
   ·subst hji;exact⟨x,hi,H⟩
   ·obtain⟨h',v,_,_,h3,_⟩:=kw H
    have:=ready_mono hj hji;rw[h3.1]at this;cases this
 |succ f ih=>
   intro listed σ hc hfree hr H;refine⟨fun h=>(by rw[h]at hr;cases hr),fun j hj=>?_⟩
   by_cases hji:j=i
   ·subst hji;exact⟨x,hi,H⟩
   ·obtain⟨h',v,_,_,h3,_⟩:=kw H
    obtain⟨y,hy,_⟩:=h3.2 j (ready_mono hj hji);obtain⟨hjun,oj,hoj,hall⟩:=mem_ready.1 hj;have hiun:=(mem_ready.1 hr).1
    have hnot:AJ anc j i=false:=by
     cases hb:AJ anc j i with
     |false=>rfl
     |true=>
       have hs:j<ops.size:=(zAg.1 hoj).1;have:=ha.listed hc j oj hoj hall hb (fun _ _ _ _=>trivial) (fun e _ _ hlt=>⟨ops[e.on]'(by omega),by simp⟩)
       rcases zDa i listed.size with h'|h'
       ·simp[h']at hiun this;rw[hiun]at this;cases this
       ·simp[Array.getElem?_eq_none h']at this
    have H':aM Φ x (aM Φ y (vg Φ ops xs K f ((listed.setIfInBounds i true).setIfInBounds j true))) σ:=ku H fun τ hτ=>by
     obtain⟨y',hy',hw⟩:=hτ.2 j (ready_mono hj hji);rw[hy]at hy';cases hy';exact hw
    have H2:=SF (hfree j y hy hji hjun hnot) (GQ hK f _) H';refine⟨y,hy,ku H2 fun τ hτ=>ih (listed.setIfInBounds j true) τ (hc.set hj) ?_ (ready_mono hr (Ne.symm hji)) ?_⟩
    ·intro k z hz hki hun hno
     refine hfree k z hz hki ?_ hno;by_cases hjk:j=k
     ·subst hjk;exact hjun
     ·rw[getD_set_ne true hjk]at hun;exact hun
    ·rw[Array.setIfInBounds_comm _ _ hji]
     exact hτ
def IN(ops:Array Oper)(xs:List AOp)(anc:List Nat):List Nat->Bool
 |[]=>true
 |i::l=>!(gZ i l)&&
   (match ops[i]? with
    |some o=>o.after.toList.all fun e=>!(Region.binds .any e)||(decide (e.on<ops.size)&& !(gZ e.on (i::l)))
    |none=>false)&&
   (match xs[i]? with
    |some x=>l.all fun j=>AJ anc j i||(match xs[j]? with
      |some y=>yC x y
      |none=>false)
    |none=>false)&&IN ops xs anc l
def yo(ops:Array Oper)(xs:List AOp)(anc perm:List Nat):Bool:=
 decide (ops.size=xs.length)&&decide (perm.length=ops.size)&&
 ((zBf ops.size).all fun j=>gZ j perm)&&
 ((zBf ops.size).all fun j=>match ops[j]? with
   |some o=>o.after.toList.all fun e=>!(Region.binds .any e)||decide (e.on<j)
   |none=>true)&&
 ((zBf ops.size).all fun j=>match ops[j]? with
   |some o=>(zBf j).all fun i=>!(zDd (anc.getD j 0) i)||o.after.toList.any fun e=>Region.binds .any e&&(decide (e.on=i)||AJ anc e.on i)
   |none=>true)&&IN ops xs anc perm
def jJ(xs:List AOp):List Nat->Option (List AOp)
 |[]=>some []
 |i::l=>match xs[i]?,jJ xs l with
   |some x,some ys=>some (x::ys)
   |_,_=>none
theorem Q9{anc perm:List Nat}(hd:yo ops xs anc perm=true):Io ops anc:=by
 simp only[yo,zAd,decide_eq_true_eq]at hd;obtain⟨⟨⟨⟨⟨hsz,hpl⟩,hall⟩,hed⟩,hanc⟩,hap⟩:=hd;intro j i oj hj hb;simp only[AJ,zAd,decide_eq_true_eq]at hb;have hs:j<ops.size:=(zAg.1 hj).1;have h1:=zAe.1 hanc j (zBb.2 hs);simp only[hj]at h1;have h2:=zAe.1 h1 i (zBb.2 hb.1);simp only[hb.2,zBj,zBh]at h2;obtain⟨e,he,h3⟩:=zDe.1 h2;simp only[zAd,zCf,decide_eq_true_eq]at h3;have h4:=zAe.1 hed j (zBb.2 hs);simp only[hj]at h4;have h5:=zAe.1 h4 e he;simp only[h3.1,zBj,zBh,decide_eq_true_eq]at h5;exact⟨e,by simpa using he,h3.1,h5,h3.2⟩
theorem SG{anc:List Nat}(ha:Io ops anc)(hK:Inv K):∀(l:List Nat)(ys:List AOp)(listed:Array Bool)(σ:St),IN ops xs anc l=true->jJ xs l=some ys->
 listed.size=ops.size->(∀j,j<ops.size->listed.getD j false=!(gZ j l))->u7 ops listed->vf Φ ys K σ->vg Φ ops xs K l.length listed σ:=by
 intro l
 induction l with
 |nil=>
   intro ys listed σ _ hys hls hl hc h;simp only[jJ,zAb]at hys;subst hys;refine⟨?_,h⟩;rw[List.eq_nil_iff_forall_not_mem];intro j hj;obtain⟨h1,o,ho,_⟩:=mem_ready.1 hj;have hs:j<ops.size:=(zAg.1 ho).1;have h2:=hl j hs;have hlt:j<listed.size:=by omega
   simp[hlt,gZ]at h1 h2;rw[h1]at h2;simp at h2
 |cons i l ih=>
   intro ys listed σ hp hys hls hl hc h;simp only[IN,zAd,zBi]at hp;obtain⟨⟨⟨hnd,hpre⟩,hap⟩,hrest⟩:=hp;simp only[jJ]at hys;split at hys
   ·rename_i x ys' hx hys'
    cases hys;split at hpre
    ·rename_i o ho
     have hks:i<ops.size:=(zAg.1 ho).1
     have hr:i∈Region.ready .any ops listed:=by
      refine mem_ready.2 ⟨?_,o,ho,fun e he hb=>?_⟩
      ·have:=hl i hks
       have hlt:i<listed.size:=by omega
       simp[hlt,gZ]at this⊢;exact this
      ·have h5:=zAe.1 hpre e (by simpa using he)
       simp only[hb,zBj,zBh,zAd,decide_eq_true_eq]at h5;rw[hl e.on h5.1];exact h5.2
     refine yK ha hK hx l.length listed σ hc ?_ hr ?_
     ·intro j y hy hji hun hno
      simp only[hx]at hap;by_cases hjs:j<ops.size
      ·have h2:=hl j hjs
       have hlt:j<listed.size:=by omega
       simp[hlt]at hun h2;rw[hun]at h2
       have h3:gZ j (i::l)=true:=by
        cases hm:gZ j (i::l)with
        |true=>rfl
        |false=>rw[hm]at h2;cases h2
       simp only[gZ,if_neg hji]at h3;have h4:=zAe.1 hap j (iZ.1 h3);simp only[hno,hy,zBh]at h4;exact h4
      ·have:¬j<listed.size:=by omega
       simp[this]at hun
     ·refine ku h fun τ hτ=>ih ys' _ τ hrest hys' (by simp[hls]) ?_ (hc.set hr) hτ
      intro j hj;by_cases hkj:i=j
      ·subst hkj
       have hlt:i<listed.size:=by omega
       simp[hlt,hnd]
      ·rw[getD_set_ne false hkj,hl j hj]
       have:j≠i:=fun h=>hkj h.symm;simp only[gZ,if_neg this]
    ·cases hpre
   ·cases hys
theorem OM{anc perm:List Nat}{ys:List AOp}{σ:St}(hd:yo ops xs anc perm=true)(hp:jJ xs perm=some ys)(hK:Inv K)(h:vf Φ ys K σ):
 vg Φ ops xs K ops.size (zAh ops.size false) σ:=by
 have ha:=Q9 hd;simp only[yo,zAd,decide_eq_true_eq]at hd;obtain⟨⟨⟨⟨⟨hsz,hpl⟩,hall⟩,hed⟩,hanc⟩,hap⟩:=hd
 have:=SG ha hK perm ys (zAh ops.size false) σ hap hp (by simp) (fun j hj=>by
  have:=zAe.1 hall j (zBb.2 hj);simp[hj,this]) (fun j oj hj hl=>by
  have hs:=(zAg.1 hj).1;simp[hs]at hl) h
 rw[hpl]at this;exact this
def EI(ops:Array Oper):Nat->Array Bool->List (List Nat)
 |0,listed=>match Region.ready .any ops listed with
   |[]=>[[]]
   |_=>[[ops.size]]
 |f+1,listed=>match Region.ready .any ops listed with
   |[]=>[[]]
   |i::r=>(i::r).flatMap fun i=>(EI ops f (listed.setIfInBounds i true)).map (i::·)
def xN:List AOp->Bool
 |[]=>true
 |x::xs=>(match x.a with
   | .call _ _=>false
   | .callv _ _=>false
   | .callH _ _=>false
   | .inv _ _ _=>false
   | .ivp _ _ _=>false
   |_=>true)&&xN xs
def By(xs:List AOp):List (List Nat)->Option (List (List AOp))
 |[]=>some []
 |p::ps=>match jJ xs p,By xs ps with
   |some y,some ys=>some (y::ys)
   |_,_=>none
theorem LI{d:Option Nat}{a:Act'}(hn:(match a with| .call _ _=>false| .callv _ _=>false| .callH _ _=>false| .inv _ _ _=>false| .ivp _ _ _=>false|_=>true)=true){σ:St}{K:St->Prop}(h:af Φ d a K σ):∃τ,∀K',af Φ d a K' σ↔K' τ:=by
 cases a with
 |call=>cases hn
 |callv=>cases hn
 |callH=>cases hn
 |inv=>cases hn
 |ivp=>cases hn
 |mkp kt=>exact⟨_,fun K'=>zAa⟩
 |ltr e sz xs=>
   simp only[af]at h⊢;split at h
   ·split at h
    ·exact⟨_,fun K'=>⟨fun h=>h.2.2,fun h'=>⟨h.1,h.2.1,h'⟩⟩⟩
    ·unfold EH at h⊢
     split at h
     ·exact⟨_,fun K'=>⟨fun h=>h.2.2.2,fun h'=>⟨h.1,h.2.1,h.2.2.1,h'⟩⟩⟩
     ·exact h.elim
   ·exact h.elim
 |apz y e sz by'=>
   simp only[af]at h⊢;split at h
   ·split at h
    ·exact⟨_,fun K'=>⟨fun h=>h.2.2,fun h'=>⟨h.1,h.2.1,h'⟩⟩⟩
    ·exact h.elim
   ·exact h.elim
 |sbq y=>
   simp only[af]at h⊢;split at h
   ·exact⟨_,fun K'=>⟨fun h=>h.2,fun h'=>⟨h.1,h'⟩⟩⟩
   ·exact h.elim
 |aps x y e=>
   simp only[af]at h⊢;split at h
   ·unfold xo at h⊢
    split at h
    ·split at h
     ·exact⟨_,fun K'=>⟨fun h=>h.2.2.2.2,fun h'=>⟨h.1,h.2.1,h.2.2.1,h.2.2.2.1,h'⟩⟩⟩
     ·exact h.elim
    ·exact h.elim
   ·exact h.elim
 |apb x y e=>
   simp only[af]at h⊢;split at h
   ·split at h
    ·unfold xo at h⊢
     split at h
     ·split at h
      ·exact⟨_,fun K'=>⟨fun h=>h.2.2.2.2,fun h'=>⟨h.1,h.2.1,h.2.2.1,h.2.2.2.1,h'⟩⟩⟩
      ·exact h.elim
     ·exact h.elim
    ·exact h.elim
   ·exact h.elim
 |alb t e z=>
   simp only[af]at h⊢;split at h
   ·exact⟨_,fun K'=>⟨fun h=>h.2,fun h'=>⟨h.1,h'⟩⟩⟩
   ·exact h.elim
 |usd x=>
   simp only[af]at h⊢;split at h
   ·split at h
    ·exact⟨_,fun K'=>⟨fun h=>h.2.2,fun h'=>⟨h.1,h.2.1,h'⟩⟩⟩
    ·exact h.elim
   ·exact h.elim
 |ust p n e=>
   simp only[af]at h⊢;split at h
   ·exact⟨_,fun K'=>⟨fun h=>h.2,fun h'=>⟨h.1,h'⟩⟩⟩
   ·split at h
    ·split at h
     ·exact⟨_,fun K'=>⟨fun h=>h.2.2.2.2.2.2.2.2,fun h'=>⟨h.1,h.2.1,h.2.2.1,h.2.2.2.1,h.2.2.2.2.1,h.2.2.2.2.2.1,h.2.2.2.2.2.2.1,h.2.2.2.2.2.2.2.1,h'⟩⟩⟩
     ·exact h.elim
    ·exact h.elim
   ·exact h.elim
 |del kt x k=>
   simp only[af]at h⊢;split at h
   ·split at h
    ·exact⟨_,fun K'=>⟨fun h=>h.2.2,fun h'=>⟨h.1,h.2.1,h'⟩⟩⟩
    ·exact h.elim
   ·exact h.elim
 |cvb x=>
   simp only[af]at h⊢;split at h
   ·split at h
    ·exact⟨_,fun K'=>⟨fun h=>h.2.2.2,fun h'=>⟨h.1,h.2.1,h.2.2.1,h'⟩⟩⟩
    ·exact h.elim
   ·exact h.elim
 |bxq x=>
   simp only[af]at h⊢;split at h
   ·exact⟨_,fun K'=>zAa⟩
   ·exact h.elim
 |alq z=>
   simp only[af]at h⊢;split at h
   ·exact⟨_,fun K'=>zAa⟩
   ·exact h.elim
 |mkq e sz by' z n=>
   simp only[af]at h⊢;split at h
   ·exact⟨_,fun K'=>⟨fun h=>h.2.2,fun h'=>⟨h.1,h.2.1,h'⟩⟩⟩
   ·exact h.elim
 |trc x hi sz=>
   simp only[af]at h⊢;split at h
   ·split at h
    ·split at h
     ·exact⟨_,fun K'=>⟨fun h=>h.2.2.2.2.2,fun h'=>⟨h.1,h.2.1,h.2.2.1,h.2.2.2.1,h.2.2.2.2.1,h'⟩⟩⟩
     ·exact h.elim
    ·exact h.elim
   ·split at h
    ·exact⟨_,fun K'=>⟨fun h=>h.2.2.2.2,fun h'=>⟨h.1,h.2.1,h.2.2.1,h.2.2.2.1,h'⟩⟩⟩
    ·exact h.elim
   ·exact h.elim
 |mup kt x k v=>
   simp only[af]at h⊢;split at h
   ·split at h
    ·exact⟨_,fun K'=>⟨fun h=>h.2.2.2.2,fun h'=>⟨h.1,h.2.1,h.2.2.1,h.2.2.2.1,h'⟩⟩⟩
    ·exact h.elim
   ·exact h.elim
 |alc z=>exact⟨_,fun K'=>zAa⟩
 |box x=>
   simp only[af]at h⊢;split at h
   ·split at h
    ·rename_i hc;simp only[if_pos hc];exact⟨_,fun K'=>zAa⟩
    ·exact h.elim
   ·exact h.elim
 |st n p x=>
   simp only[af]at h⊢;split at h
   ·split at h
    ·rename_i hc
     simp only[if_pos hc];split at h
     ·exact⟨_,fun K'=>zAa⟩
     ·exact h.elim
    ·exact h.elim
   ·exact h.elim
 |s2b x=>
   simp only[af]at h⊢;split at h
   ·exact⟨_,fun K'=>⟨fun h=>h.2,fun h'=>⟨h.1,h'⟩⟩⟩
   ·exact h.elim
 |lit e0 sz xs=>
   simp only[af]at h⊢;split at h
   ·split at h
    ·exact⟨_,fun K'=>⟨fun h=>h.2.2,fun h'=>⟨h.1,h.2.1,h'⟩⟩⟩
    ·exact h.elim
   ·exact h.elim
 |app x y e sz by'=>
   simp only[af]at h⊢;split at h
   ·unfold Lq at h⊢
    split at h
    ·split at h
     ·exact⟨_,fun K'=>⟨fun h=>h.2.2.2.2.2,fun h'=>⟨h.1,h.2.1,h.2.2.1,h.2.2.2.1,h.2.2.2.2.1,h'⟩⟩⟩
     ·exact h.elim
    ·exact h.elim
   ·unfold Lr at h⊢
    split at h
    ·split at h
     ·exact⟨_,fun K'=>⟨fun h=>h.2.2.2.2,fun h'=>⟨h.1,h.2.1,h.2.2.1,h.2.2.2.1,h'⟩⟩⟩
     ·exact h.elim
    ·exact h.elim
   ·split at h
    ·obtain⟨h0,h⟩:=h
     split at h
     ·exact⟨_,fun K'=>⟨fun h=>h.2.2,fun h'=>⟨h0,h.1,h'⟩⟩⟩
     ·split at h
      ·exact⟨_,fun K'=>⟨fun h=>h.2.2.2.2.2,fun h'=>⟨h0,h.1,h.2.1,h.2.2.1,h.2.2.2.1,h'⟩⟩⟩
      ·exact h.elim
     ·split at h
      ·split at h
       ·exact⟨_,fun K'=>⟨fun h=>h.2.2.2.2.2,fun h'=>⟨h0,h.1,h.2.1,h.2.2.1,h.2.2.2.1,h'⟩⟩⟩
       ·exact h.elim
      ·exact h.elim
     ·exact h.elim
    ·exact h.elim
   ·exact h.elim
 |rgs x=>
   simp only[af]at h⊢;split at h
   ·exact⟨_,fun K'=>zAa⟩
   ·exact h.elim
 |nxs x=>
   simp only[af]at h⊢;split at h
   ·split at h
    ·split at h
     ·rename_i hp;simp only[if_pos hp];exact⟨_,fun K'=>zAa⟩
     ·rename_i hp;simp only[if_neg hp];exact⟨_,fun K'=>zAa⟩
    ·exact h.elim
   ·exact h.elim
 |yld g xs=>
   simp only[af]at h⊢;split at h
   ·split at h
    ·exact⟨_,fun K'=>⟨fun h=>h.2.2,fun h'=>⟨h.1,h.2.1,h'⟩⟩⟩
    ·exact h.elim
   ·exact h.elim
 |mkm e by' e2 sz n=>
   simp only[af]at h⊢;split at h
   ·exact⟨_,fun K'=>⟨fun h=>h.2.2,fun h'=>⟨h.1,h.2.1,h'⟩⟩⟩
   ·exact h.elim
 |mk0 e sz by' n=>
   simp only[af]at h⊢;split at h
   ·exact⟨_,fun K'=>⟨fun h=>h.2.2,fun h'=>⟨h.1,h.2.1,h'⟩⟩⟩
   ·exact h.elim
 |mks e sz by' z n=>
   simp only[af]at h⊢;split at h
   ·exact⟨_,fun K'=>⟨fun h=>h.2.2,fun h'=>⟨h.1,h.2.1,h'⟩⟩⟩
   ·exact h.elim
 |_=>
   simp only[af]at h⊢;split at h
   ·exact⟨_,fun K'=>zAa⟩
   ·exact h.elim
theorem YL{x:AOp}(hn:(match x.a with| .call _ _=>false| .callv _ _=>false| .callH _ _=>false| .inv _ _ _=>false| .ivp _ _ _=>false|_=>true)=true){σ:St}{K:St->Prop}(h:wop Φ x K σ):∃τ,∀K',wop Φ x K' σ↔K' τ:=by
 unfold wop at h⊢;split at h
 ·exact LI hn h
 ·split at h
  ·rename_i t b _ _ y hy
   cases y<;>cases b<;>simp[Br]at h⊢<;>first|exact LI hn h|exact⟨_,fun K'=>zAa⟩
  ·exact⟨_,fun K'=>zAa⟩
  ·exact h.elim
theorem Sa(ops:Array Oper):∀(f:Nat)(listed:Array Bool),EI ops f listed≠[]
 |0,listed=>by unfold EI;split<;>simp
 |f+1,listed=>by
   unfold EI;split
   ·simp
   ·rename_i i r _
    have:=Sa ops f (listed.setIfInBounds i true);intro h;rw[List.flatMap_cons]at h;exact this (List.map_eq_nil_iff.1 (List.append_eq_nil_iff.1 h).1)
theorem BB{i:Nat}{x:AOp}:∀{xs:List AOp},xN xs=true->xs[i]?=some x->(match x.a with| .call _ _=>false| .callv _ _=>false| .callH _ _=>false| .inv _ _ _=>false| .ivp _ _ _=>false|_=>true)=true
 |[],_,h=>by simp at h
 |y::ys,hn,h=>by
   simp only[xN,zAd]at hn;revert h;revert i;intro i h;cases i with
   |zero=>simp at h;subst h;exact hn.1
   |succ i=>simp at h;exact BB hn.2 h
theorem TE (hn:xN xs=true) (hsz:ops.size=xs.length):∀ (f:Nat) (listed:Array Bool) (σ:St),(∀ p∈EI ops f listed,∃ ys,jJ xs p=some ys∧xv Φ ys K σ)→
 RD Φ ops xs K f listed σ:=by
 intro f
 induction f with
 | zero=>
   intro listed σ h
   unfold EI at h
   split at h
   · rename_i hr
     obtain ⟨ys,h1,h2⟩:=h [] (by simp)
     simp only [jJ,zAb] at h1
     subst h1
     exact ⟨hr,h2⟩
   · obtain ⟨ys,h1,_⟩:=h [ops.size] (by simp)
     simp [jJ,hsz] at h1
 | succ f ih=>
   intro listed σ h
   unfold EI at h
   split at h
   · rename_i hr
     obtain ⟨ys,h1,h2⟩:=h [] (by simp)
     simp only [jJ,zAb] at h1
     subst h1
     refine ⟨fun _=>h2,fun i hi=>?_⟩
     rw [hr] at hi
     cases hi
   · rename_i i0 r hr
     refine ⟨fun h0=>(by rw [hr] at h0; cases h0),fun i hi=>?_⟩
     rw [hr] at hi
     have hall:∀ p∈EI ops f (listed.setIfInBounds i true),∃ ys,jJ xs (i::p)=some ys∧xv Φ ys K σ:=fun p hp=>h (i::p) (List.mem_flatMap.2 ⟨i,hi,zDh.2 ⟨p,hp,rfl⟩⟩)
     obtain ⟨p0,hp0⟩:=List.exists_mem_of_ne_nil _ (Sa ops f (listed.setIfInBounds i true))
     obtain ⟨ys0,h0,hw0⟩:=hall p0 hp0
     simp only [jJ] at h0
     split at h0
     · rename_i x ys1 hx hy1
       cases h0
       obtain ⟨τ,hτ⟩:=YL (BB hn hx) hw0
       refine ⟨x,hx,(hτ _).2 (ih _ τ (fun p hp=>?_))⟩
       obtain ⟨ys,h2,hw⟩:=hall p hp
       simp only [jJ,hx] at h2
       split at h2
       · rename_i x' ys2 hx' hy2
         cases hx'
         cases h2
         exact ⟨ys2,hy2,(hτ _).1 hw⟩
       · cases h2
     · cases h0
theorem Vj{x:AOp}{σ:St}{K K':St->Prop}(h:aM Φ x K σ)(hk:∀τ,K τ->K' τ):wop Φ x K' σ:=Vl (ku h hk)
theorem Iv:∀(f:Nat)(listed:Array Bool){σ:St},vg Φ ops xs K f listed σ->RD Φ ops xs K f listed σ
 |0,_,_,h=>h
 |f+1,_,_,h=>⟨h.1,fun i hi=>by
   obtain⟨x,hx,hw⟩:=h.2 i hi;exact⟨x,hx,Vj hw fun τ hτ=>Iv f _ hτ⟩⟩
def QG(xs:List AOp)(anc:List Nat)(listed:Array Bool)(i:Nat):Bool:=match xs[i]? with
 |some x=>(zBf xs.length).all fun j=>decide (j=i)||listed.getD j true||AJ anc j i||(match xs[j]? with
   |some y=>yC x y
   |none=>true)
 |none=>false
def KQ(xs:List AOp)(anc:List Nat)(listed:Array Bool):List Nat->Option Nat
 |[]=>none
 |i::l=>if QG xs anc listed i=true then some i else KQ xs anc listed l
def HN:List (Option OT)->Option OT
 |[]=>none
 |[t]=>t
 |t::ts=>match t,HN ts with
   |some a,some b=>some (.both a b)
   |_,_=>none
def opT:Option AOp->Option OT->Option OT
 |some x,some t=>some (.op x t)
 |_,_=>none
def Qk(ops:Array Oper)(xs:List AOp)(anc:List Nat):Nat->Array Bool->Option OT
 |0,listed=>match Region.ready .any ops listed with
   |[]=>some .nil
   |_=>none
 |f+1,listed=>match Region.ready .any ops listed with
   |[]=>some .nil
   |i::r=>match KQ xs anc listed (i::r)with
     |some k=>opT xs[k]? (Qk ops xs anc f (listed.setIfInBounds k true))
     |none=>HN ((i::r).map fun k=>opT xs[k]? (Qk ops xs anc f (listed.setIfInBounds k true)))
theorem MD{x:Option AOp}{t:Option OT}{u:OT}(h:opT x t=some u):∃y v,x=some y/\t=some v/\u=.op y v:=by
 unfold opT at h;split at h
 ·cases h;exact⟨_,_,rfl,rfl,rfl⟩
 ·cases h
theorem HM{K:St->Prop}{σ:St}:∀{ts:List (Option OT)}{t:OT},HN ts=some t->iP Φ t K σ->∀u∈ts,∃v,u=some v/\iP Φ v K σ
 |[],_,h,_,_,_=>by cases h
 |[t0],t,h,hW,u,hu=>by
   simp only[HN]at h;simp only[List.mem_singleton]at hu;subst hu;exact⟨t,h,hW⟩
 |t0::t1::ts,t,h,hW,u,hu=>by
   simp only[HN]at h;cases t0 with
   |none=>cases h
   |some a=>
     cases h2:HN (t1::ts)with
     |none=>simp[h2]at h
     |some b=>
       simp only[h2,zAb]at h;subst h;rcases zCi.1 hu with rfl|hu
       ·exact⟨a,rfl,hW.1⟩
       ·exact HM h2 hW.2 u hu
theorem QL{anc:List Nat}{listed:Array Bool}{l:List Nat}{k:Nat}(h:KQ xs anc listed l=some k):k∈l/\QG xs anc listed k=true:=by
 induction l with
 |nil=>cases h
 |cons i l ih=>
   simp only[KQ]at h;split at h
   ·rename_i hf;cases h;exact⟨by simp,hf⟩
   ·exact⟨List.mem_cons_of_mem _ (ih h).1,(ih h).2⟩
theorem TD{anc:List Nat}(ha:Io ops anc)(hK:Inv K):∀(f:Nat)(listed:Array Bool)(σ:St)(t:OT),u7 ops listed->Qk ops xs anc f listed=some t->iP Φ t K σ->
 vg Φ ops xs K f listed σ:=by
 intro f
 induction f with
 |zero=>
   intro listed σ l hc h hW;unfold Qk at h;split at h
   ·rename_i hr
    cases h;exact⟨hr,hW⟩
   ·cases h
 |succ f ih=>
   intro listed σ l hc h hW;unfold Qk at h;split at h
   ·rename_i hr
    cases h;exact⟨fun _=>hW,fun i hi=>by rw[hr]at hi;cases hi⟩
   ·rename_i i r hr
    split at h
    ·rename_i k hk
     obtain⟨x,l',hx,hl',rfl⟩:=MD h;obtain⟨hk1,hfree⟩:=QL hk;have hkr:k∈Region.ready .any ops listed:=by rw[hr];exact hk1
     refine yK ha hK hx f listed σ hc ?_ hkr (ku hW fun τ hτ=>ih _ τ l' (hc.set hkr) hl' hτ);intro j y hy hjk hun hno;unfold QG at hfree;rw[hx]at hfree;have:=zAe.1 hfree j (zBb.2 (zAf.1 hy).1);simp only[hun,hno,hy,Bool.or_false,zCf,decide_eq_true_eq,hjk,false_or]at this;exact this
    ·refine⟨fun h0=>(by rw[hr]at h0;cases h0),fun k hk=>?_⟩
     obtain⟨v,hv,hWv⟩:=HM h hW _ (zDh.2 ⟨k,by rw[hr]at hk;exact hk,rfl⟩)
     obtain⟨x,l',hx,hl',rfl⟩:=MD hv;exact⟨x,hx,ku hWv fun τ hτ=>ih _ τ l' (hc.set hk) hl' hτ⟩
def Ls(ops:Array Oper)(anc:List Nat):Bool:=
 ((zBf ops.size).all fun j=>match ops[j]? with
   |some o=>o.after.toList.all fun e=>!(Region.binds .any e)||decide (e.on<j)
   |none=>true)&&
 ((zBf ops.size).all fun j=>match ops[j]? with
   |some o=>(zBf j).all fun i=>!(zDd (anc.getD j 0) i)||o.after.toList.any fun e=>Region.binds .any e&&(decide (e.on=i)||AJ anc e.on i)
   |none=>true)
theorem Rq{anc:List Nat}(hd:Ls ops anc=true):Io ops anc:=by
 simp only[Ls,zAd]at hd;obtain⟨hed,hanc⟩:=hd;intro j i oj hj hb;simp only[AJ,zAd,decide_eq_true_eq]at hb;have hs:j<ops.size:=(zAg.1 hj).1;have h1:=zAe.1 hanc j (zBb.2 hs);simp only[hj]at h1;have h2:=zAe.1 h1 i (zBb.2 hb.1);simp only[hb.2,zBj,zBh]at h2;obtain⟨e,he,h3⟩:=zDe.1 h2;simp only[zAd,zCf,decide_eq_true_eq]at h3;have h4:=zAe.1 hed j (zBb.2 hs);simp only[hj]at h4;have h5:=zAe.1 h4 e he;simp only[h3.1,zBj,zBh,decide_eq_true_eq]at h5;exact⟨e,by simpa using he,h3.1,h5,h3.2⟩
theorem u7.start{n:Nat}:u7 ops (zAh n false):=by
 intro j oj hj hl;by_cases hjn:j<n
 ·simp[hjn]at hl
 ·simp[hjn]at hl
theorem aa7{ps:List Nat}{os:List Oper}{ys:List AOp}(h:LOs P N ps ops os ys):∀{i:Nat}{o:Oper}{y:AOp},os[i]?=some o->ys[i]?=some y->LO P N ps ops o y:=by
 induction h with
 |nil=>intro i o y h;simp at h
 |cons hl hs ih=>
   intro i o y h1 h2;cases i with
   |zero=>simp at h1 h2;subst h1;subst h2;exact hl
   |succ i=>simp at h1 h2;exact ih h1 h2
theorem sg(hJC:ig P M0 B){ρ:Option Nat}{Q:Exit->Act->World->Prop}{K:St->Prop}(hL:LOs P N B.ps ops ops.toList xs)(hK:∀κ' M' σ' a' w',K σ'->Rel N M0 B w0 κ' M' σ' a' w'->Q .normal a' w'):
 ∀(f:Nat)(listed:Array Bool){κ:Kap}{M:Mem}{σ:St}{a:Act}{w:World},Rel N M0 B w0 κ M σ a w->RD (Cn P) ops xs K f listed σ->wpAnyIn (FR ρ) 0 P .any ops Q f listed a w
 |0,_,_,_,_,_,_,H,hW=>⟨hW.1,hK _ _ _ _ _ hW.2 H⟩
 |f+1,listed,_,_,_,_,_,H,hW=>by
   refine⟨fun h0=>hK _ _ _ _ _ (hW.1 h0) H,fun i hi=>?_⟩;obtain⟨x,hx,hw⟩:=hW.2 i hi;obtain⟨_,o,ho,_⟩:=mem_ready.1 hi;have hl:=aa7 hL (by simpa using ho) hx
   have:=MC hJC (ρ:=ρ) H hl hw (Q:=Q) (fun κ' M' σ' a' w' hk H'=>sg (ρ:=ρ) hJC hL hK f _ H' hk);unfold wpOpIn;simp only[ho];split
   ·rename_i hwd;rw[if_pos hwd]at this;exact this
   ·rename_i hwd;rw[if_neg hwd]at this;exact⟨fun _ _=>trivial,this⟩
theorem Rel.draw{κ:Kap}{M:Mem}{σ:St}{a:Act}{w:World}(H:Rel N M0 B w0 κ M σ a w)(n:Nat):Rel N M0 B w0 κ M σ a { w with drawn:=n }:=
 { dfr:=H.dfr,jst:=H.jst,pin:=H.pin,size:=H.size,regs:=H.regs,heap:=fun id ob h=>by
    have:=H.heap id ob h;cases ob with
    |gh l=>
      simp only[aH]at this⊢;obtain⟨k,h1,h2,h3⟩:=this;exact⟨k,h1,H.jst _ _ _ _ _ _ _ h2 ⟨rfl,rfl,rfl,zCb _,fun _ _ _=>rfl,fun _ cur T z h=>⟨cur,T,z,h,rfl⟩⟩ (fun _ _=>rfl) (fun _ _ h=>h) H.snd,h3⟩
    |_=>exact this
   inj:=H.inj,snd:=H.snd,sep:=H.sep,sub:=H.sub,new:=H.new,base:=H.base,blw:=⟨H.blw.os,H.blw.tape,H.blw.output,H.blw.size,H.blw.block,H.blw.siz⟩ }
inductive LC (P:Program) (N:Nat) (ps:List Nat):Code->AC->Prop
 |skip:LC P N ps .skip .skip
 |reg {id ops xs ks}:LOs P N ps ops ops.toList xs->LC P N ps (.region id ops false) (.reg xs ks)
 |regD {id ops xs ys anc perm ks}:LOs P N ps ops ops.toList xs->yo ops xs anc perm=true->jJ xs perm=some ys->LC P N ps (.region id ops true) (.regD ys ks)
 |regE {id ops xs yss ks}:LOs P N ps ops ops.toList xs->xN xs=true->ops.size=xs.length->By xs (EI ops ops.size (zAh ops.size false))=some yss->LC P N ps (.region id ops true) (.regE yss ks)
 |regF {id ops xs yss anc ks}:LOs P N ps ops ops.toList xs->Ls ops anc=true->Qk ops xs anc ops.size (zAh ops.size false)=some yss->LC P N ps (.region id ops true) (.regF yss ks)
 |scope {c rest a b l ks}:LC P N ps c a->findLabel c l=some rest->LC P N ps rest b->LC P N ps (.scope c) (.scope l ks a b)
 |label {l}:LC P N ps (.label l) (.label l)
 |goto {l}:LC P N ps (.goto l) (.goto l)
 |bad {x}:LC P N ps x .bad
 |seq {x y a b}:LC P N ps x a->LC P N ps y b->LC P N ps (.seq x y) (.seq a b)
 |cond {c c' x y a b t}:cO P t c=some c'->LC P N ps x a->LC P N ps y b->LC P N ps (.cond c x y) (.cond c' a b)
 |block {id x a}:LC P N ps x a->LC P N ps (.block id x) (.block id a)
 |loop {x a ks}:LC P N ps x a->LC P N ps (.loop x) (.loop ks a)
 |exit {id}:LC P N ps (.exit id) (.exit id)
 |ret:LC P N ps .ret .ret
def Ex.out:Ex->Exit
 | .norm=>.normal
 | .exit id=>.exit id
 | .goto l=>.goto l
 | .ret=>.ret
theorem yr{κ:Kap}{M:Mem}{σ σ':St}{a:Act}{w:World}(H:Rel N M0 B w0 κ M σ' a w)(ks:List Nat):Rel N M0 B w0 κ M (σ.cls σ' ks) a w:=H.forget _ fun t v h=>Ne h
theorem Bx{r s:List (Nat×V)}(h:∀t,lk s t=lk r t):∀ks,pk s ks=pk r ks
 |[]=>rfl
 |k::ks=>by simp only[pk,h k,Bx h ks]
theorem Z2{R:St->Prop}(ks:List Nat):Inv (fun σ'=>R (σ'.nrm ks)):=by
 intro σ1 τ he h1
 have:τ.nrm ks=σ1.nrm ks:=by
  simp only[St.nrm,he.1,Bx he.2]
 show R (τ.nrm ks)
 rw[this];exact h1
theorem Ng{p:Nat->Prop}(h:∃n,p n):∃n,p n/\∀m,p m->n<=m:=by
 obtain⟨n,hn⟩:=h
 induction n using zCe with
 |_ n ih=>
   by_cases hm:∃m,m<n/\p m
   ·obtain⟨m,h1,h2⟩:=hm
    exact ih m h1 h2
   ·exact⟨n,hn,fun m h=>by
     rcases zDa m n with h1|h1
     ·exact(hm ⟨m,h1,h⟩).elim
     ·exact h1⟩
open Classical in
noncomputable def uA(p:Nat->Prop):Nat:=if h:∃n,p n then(Ng h).choose else 0
theorem l6{p:Nat->Prop}(h:∃n,p n):p (uA p)/\∀m,p m->uA p<=m:=by
 unfold uA;rw[dif_pos h];exact(Ng h).choose_spec
theorem LX{b:Frame}{a:Act}{c:Code}{k:List Item}{cs:List Frame}{w:World}:step P (lone (b.atR a (.code (.scope c)::k)) cs w)=.next (lone (b.atR a (.code c::.inScope c::k)) cs w):=
 step_lone_go (by simp[stepG,stepG.exec,Frame.atR])
theorem sO{b:Frame}{a:Act}{c:Code}{k:List Item}{cs:List Frame}{w:World}:step P (lone (b.atR a (.inScope c::k)) cs w)=.next (lone (b.atR a k) cs w):=
 step_lone_go (by simp[stepG,stepG.exec,Frame.atR])
theorem xu{F:Fence}{n:Nat}{Q:Exit->Act->World->Prop}{a:Act}{w:World}{c rest:Code}(l:Nat)(J:Act->World->Prop)(μ:Act->World->Nat)(hf:findLabel c l=some rest)
 (first:c.wpIn F n P (Exit.jump l J Q) a w)
 (pass:∀a w,J a w->rest.wpIn F n P (Exit.jump l (fun a' w'=>J a' w'/\μ a' w'<μ a w) Q) a w):(Code.scope c).wpIn F n P Q a w:=by
 intro b k cs hro hb hr;have hg:gotoIn l (.inScope c::k)=some (.code rest::.inScope c::k):=by simp[gotoIn,hf]
 have hS:∀{I:Machine->Prop}{m:Machine}{e:Exit}{a₁:Act}{w₁:World},(∀l',e≠.goto l')->e≠.normal->ArrivesIn I P m b (.inScope c::k) cs e a₁ w₁->ArrivesIn I P m b k cs e a₁ w₁:=by
  intro I m e a₁ w₁ hng hnn harr;cases e with
  |normal=>exact absurd rfl hnn
  |exit id=>exact⟨fun k' hk=>harr.1 k' (by simp[exitTo,hk]),fun hr hk=>harr.2 hr (by simp[exitTo,hk])⟩
  |goto l'=>exact absurd rfl (hng l')
  |ret=>exact harr
  |panic ch=>exact harr
  |outgrown=>exact harr
 have key:∀n a w,μ a w=n->J a w->∃e a' w',Q e a' w'/\ArrivesIn (Machine.fenced P F) P (lone (b.atR a (.code rest::.inScope c::k)) cs w) b k cs e a' w':=by
  intro n
  induction n using zCe with
  |_ n ih=>
    intro a w hn hJ;obtain⟨e,a₁,w₁,hq,harr⟩:=pass a w hJ b (.inScope c::k) cs hro hb hr;cases e with
    |normal=>exact⟨.normal,a₁,w₁,hq,StepsIn.trans harr (.one (fenced_calm hb hr rfl) sO)⟩
    |exit id=>exact⟨.exit id,a₁,w₁,hq,hS (fun _ h=>by cases h) (fun h=>by cases h) harr⟩
    |goto l'=>
      obtain⟨rfl,hJ',hlt⟩:=hq;obtain⟨e₂,a₂,w₂,hq₂,harr₂⟩:=ih _ (by omega) a₁ w₁ rfl hJ'
      exact⟨e₂,a₂,w₂,hq₂,.of_steps (harr.1 _ hg) harr₂⟩
    |ret=>exact⟨_,a₁,w₁,hq,hS (fun _ h=>by cases h) (fun h=>by cases h) harr⟩
    |panic ch=>exact⟨_,a₁,w₁,hq,hS (fun _ h=>by cases h) (fun h=>by cases h) harr⟩
    |outgrown=>exact⟨_,a₁,w₁,hq,hS (fun _ h=>by cases h) (fun h=>by cases h) harr⟩
 have h0:StepsIn (Machine.fenced P F) P (lone (b.atR a (.code (.scope c)::k)) cs w) (lone (b.atR a (.code c::.inScope c::k)) cs w):=.one (fenced_calm hb hr rfl) LX;obtain⟨e,a₁,w₁,hq,harr⟩:=first b (.inScope c::k) cs hro hb hr
 cases e with
 |normal=>exact⟨.normal,a₁,w₁,hq,StepsIn.trans h0 (StepsIn.trans harr (.one (fenced_calm hb hr rfl) sO))⟩
 |exit id=>exact⟨.exit id,a₁,w₁,hq,.of_steps h0 (hS (fun _ h=>by cases h) (fun h=>by cases h) harr)⟩
 |goto l'=>
   obtain⟨rfl,hJ'⟩:=hq;obtain⟨e₂,a₂,w₂,hq₂,harr₂⟩:=key _ a₁ w₁ rfl hJ';exact⟨e₂,a₂,w₂,hq₂,.of_steps (StepsIn.trans h0 (harr.1 _ hg)) harr₂⟩
 |ret=>exact⟨_,a₁,w₁,hq,.of_steps h0 (hS (fun _ h=>by cases h) (fun h=>by cases h) harr)⟩
 |panic ch=>exact⟨_,a₁,w₁,hq,.of_steps h0 (hS (fun _ h=>by cases h) (fun h=>by cases h) harr)⟩
 |outgrown=>exact⟨_,a₁,w₁,hq,.of_steps h0 (hS (fun _ h=>by cases h) (fun h=>by cases h) harr)⟩
theorem z6{F:Fence}{n:Nat}{Q:Exit->Act->World->Prop}{a:Act}{w:World}{c:Code}(I:Nat->Act->World->Prop)(n₀:Nat)(h₀:I n₀ a w)
 (round:∀k a w,I k a w->c.wpIn F n P (Exit.then (fun a' w'=>∃k',k'<k/\I k' a' w') Q) a w):(Code.loop c).wpIn F n P Q a w:=by
 refine wpIn_loop (fun a w=>∃k,I k a w) (fun a w=>uA (fun k=>I k a w)) ⟨n₀,h₀⟩ ?_;intro a w hI;refine wpIn_mono (round _ a w (l6 hI).1) ?_;intro e a' w' hq;cases e with
 |normal=>
   obtain⟨k',hlt,hI'⟩:=hq;exact show(∃k,I k a' w')/\uA (fun k=>I k a' w')<uA (fun k=>I k a w)from⟨⟨k',hI'⟩,zDb ((l6 ⟨k',hI'⟩).2 k' hI') hlt⟩
 |exit id=>exact hq
 |goto l=>exact hq
 |ret=>exact hq
 |panic ch=>exact hq
 |outgrown=>exact hq
theorem oG(hm:P.follows .mixedOrders=true)(hJC:ig P M0 B){ρ:Option Nat}{c:Code}{x:AC}(h:LC P N B.ps c x):∀{Q:Exit->Act->World->Prop}{R:Ex->St->Prop},
 (∀e κ M σ a w,R e σ->Rel N M0 B w0 κ M σ a w->Q e.out a w)->∀{κ:Kap}{M:Mem}{σ:St}{a:Act}{w:World},Rel N M0 B w0 κ M σ a w->W (Cn P) x R σ->c.wpIn (FR ρ) 0 P Q a w:=by
 induction h with
 |skip=>intro Q R hQ κ M σ a w H hW;exact wpIn_skip (hQ .norm _ _ _ _ _ hW H)
 |reg hL=>
   intro Q R hQ κ M σ a w H hW;refine wpIn_region_list (Hp hJC (fun κ' M' σ' a' w' hk H'=>?_) hL H hW);exact hQ .norm _ _ _ _ _ hk (yr H' _)
 | @regD id ops xs ys anc perm ks hL hd hp=>
   intro Q R hQ κ M σ a w H hW;refine wpIn_region_any hm ?_
   have hinv:Inv (fun σ'=>R .norm (σ.cls σ' ks)):=by
    intro σ1 τ he h1
    have:σ.cls τ ks=σ.cls σ1 ks:=by
     simp only[St.cls,he.1,Bx he.2]
    rw[this];exact h1
   refine sg hJC hL (fun κ' M' σ' a' w' hk H'=>?_) _ _ (H.draw _) (Iv _ _ (OM hd hp hinv hW));exact hQ .norm _ _ _ _ _ hk (yr H' _)
 | @regE id ops xs yss ks hL hn hsz hp=>
   intro Q R hQ κ M σ a w H hW;refine wpIn_region_any hm ?_
   have key:∀(ps:List (List Nat))(yss:List (List AOp)),By xs ps=some yss->Pl (Cn P) yss (fun σ'=>R .norm (σ.cls σ' ks)) σ->∀p∈ps,∃ys,jJ xs p=some ys/\xv (Cn P) ys (fun σ'=>R .norm (σ.cls σ' ks)) σ:=by
    intro ps
    induction ps with
    |nil=>intro _ _ _ p hp;cases hp
    |cons q ps ih=>
      intro yss h1 h2 p hp;simp only[By]at h1;split at h1
      ·rename_i y ys hy hys
       cases h1;rcases zCi.1 hp with rfl|hp
       ·exact⟨y,hy,h2.1⟩
       ·exact ih ys hys h2.2 p hp
      ·cases h1
   refine sg hJC hL (fun κ' M' σ' a' w' hk H'=>?_) _ _ (H.draw _) (TE hn hsz _ _ σ (key _ _ hp hW));exact hQ .norm _ _ _ _ _ hk (yr H' _)
 | @regF id ops xs yss anc ks hL hanc hp=>
   intro Q R hQ κ M σ a w H hW;refine wpIn_region_any hm ?_;refine sg hJC hL (fun κ' M' σ' a' w' hk H'=>?_) _ _ (H.draw _) (Iv _ _ (TD (Rq hanc) (Z2 (R:=R .norm) ks) _ _ σ _ u7.start hp hW));obtain⟨κ2,H2⟩:=H'.nrm ks;exact hQ .norm _ _ _ _ _ hk H2
 | @scope c rest x y l ks _ hf _ iha ihb=>
   intro Q R hQ κ M σ a w H hW;obtain⟨I,h1,h2⟩:=hW;have G:∀a w,(∃n κ M τ,I n τ/\Rel N M0 B w0 κ M τ a w)->∃n,∃κ M τ,I n τ/\Rel N M0 B w0 κ M τ a w:=fun _ _ h=>h;refine xu l (fun a w=>∃n κ M τ,I n τ/\Rel N M0 B w0 κ M τ a w) (fun a w=>uA fun n=>∃κ M τ,I n τ/\Rel N M0 B w0 κ M τ a w) hf (iha ?_ H h1) ?_
   ·intro e κ M σ a w hR H
    cases e with
    |norm=>exact hQ .norm _ _ _ _ _ hR H
    |exit id=>exact hQ (.exit id) _ _ _ _ _ hR H
    |ret=>exact hQ .ret _ _ _ _ _ hR H
    |goto l'=>
      obtain⟨rfl,n,ms,τ'',g1,g2⟩:=hR;obtain⟨κ',M',H'⟩:=H.mats g1;obtain⟨κ2,H2⟩:=H'.nrm ks;exact⟨rfl,n,_,_,_,g2,H2⟩
   ·intro a w hJ
    obtain⟨⟨κ,M,τ,hI,H⟩,hmin⟩:=l6 hJ;refine ihb ?_ H (h2 _ τ hI);intro e κ M σ a w hR H;cases e with
    |norm=>exact hQ .norm _ _ _ _ _ hR H
    |exit id=>exact hQ (.exit id) _ _ _ _ _ hR H
    |ret=>exact hQ .ret _ _ _ _ _ hR H
    |goto l'=>
      obtain⟨rfl,m,ms,τ'',g1,g2,g3⟩:=hR;obtain⟨κ',M',H'⟩:=H.mats g1;obtain⟨κ2,H2⟩:=H'.nrm ks;have hJ':∃n,∃κ M τ,I n τ/\Rel N M0 B w0 κ M τ a w:=⟨m,_,_,_,g2,H2⟩;exact⟨rfl,hJ',zDb ((l6 hJ').2 m ⟨_,_,_,g2,H2⟩) g3⟩
 |label=>intro Q R hQ κ M σ a w H hW;exact wpIn_label (hQ .norm _ _ _ _ _ hW H)
 |goto=>intro Q R hQ κ M σ a w H hW;exact wpIn_goto (hQ (.goto _) _ _ _ _ _ hW H)
 |bad=>
   intro Q R hQ κ M σ a w H hW;exact hW.elim
 |seq _ _ iha ihb=>
   intro Q R hQ κ M σ a w H hW;refine wpIn_seq (iha ?_ H hW);intro e κ M σ a w hR H;cases e with
   |norm=>exact ihb hQ H hR
   |exit id=>exact hQ (.exit id) _ _ _ _ _ hR H
   |goto l=>exact hQ (.goto l) _ _ _ _ _ hR H
   |ret=>exact hQ .ret _ _ _ _ _ hR H
 |cond hc _ _ iha ihb=>
   intro Q R hQ κ M σ a w H hW;simp only[W]at hW;split at hW
   ·rename_i t ht
    have hv:=H.op hc ht;exact wpIn_cond_split (iS hv) (fun h=>iha hQ H (hW.1 h)) (fun h=>ihb hQ H (hW.2 h))
   ·exact hW.elim
 | @block id x a _ ih=>
   intro Q R hQ κ M σ a w H hW;refine wpIn_block (ih ?_ H hW);intro e κ M σ a w hR H;cases e with
   |norm=>exact hQ .norm _ _ _ _ _ hR H
   |exit id'=>
     simp only[Ex.inBlock]at hR;simp only[Ex.out,Exit.inBlock];split
     ·rename_i he;rw[if_pos he]at hR;exact hQ .norm _ _ _ _ _ hR H
     ·rename_i he;rw[if_neg he]at hR;exact hQ (.exit id') _ _ _ _ _ hR H
   |goto l=>exact hQ (.goto l) _ _ _ _ _ hR H
   |ret=>exact hQ .ret _ _ _ _ _ hR H
 | @loop x a ks _ ih=>
   intro Q R hQ κ M σ a w H hW;obtain⟨I,⟨n,ms,σ',hms,hI⟩,hr⟩:=hW;obtain⟨κ',M',H'⟩:=H.mats hms;obtain⟨κ2,H2⟩:=H'.nrm ks;refine z6 (fun n a w=>∃κ M τ,I n τ/\Rel N M0 B w0 κ M τ a w) n ⟨_,_,_,hI,H2⟩ ?_;rintro n a w ⟨κ,M,τ,hI,H⟩;refine ih ?_ H (hr n τ hI);intro e κ M σ a w hR H;cases e with
   |norm=>
     obtain⟨m,ms,τ',h1,h2,h3⟩:=hR;obtain⟨κ',M',H'⟩:=H.mats h1;obtain⟨κ2,H2⟩:=H'.nrm ks;exact⟨m,h3,_,_,_,h2,H2⟩
   |exit id=>exact hQ (.exit id) _ _ _ _ _ hR H
   |goto l=>exact hQ (.goto l) _ _ _ _ _ hR H
   |ret=>exact hQ .ret _ _ _ _ _ hR H
 |exit=>intro Q R hQ κ M σ a w H hW;exact wpIn_exit (hQ (.exit _) _ _ _ _ _ hW H)
 |ret=>intro Q R hQ κ M σ a w H hW;exact wpIn_ret (hQ .ret _ _ _ _ _ hW H)
end
def adL(P:Program)(op:BinOp)(xt:TypeId)(u v:AO):Act':=
 match P.underlying xt,op with
 |some .bool,.eql=>.beq false u v
 |some .bool,.neq=>.beq true u v
 |some (.struct _),.eql=>match ktT P xt with
   |some kt=>if kt.agg=true then .aeq false kt u v else .bin op u v
   |none=>.bin op u v
 |some (.struct _),.neq=>match ktT P xt with
   |some kt=>if kt.agg=true then .aeq true kt u v else .bin op u v
   |none=>.bin op u v
 |some (.array _ _),.eql=>match ktT P xt with
   |some kt=>if kt.agg=true then .aeq false kt u v else .bin op u v
   |none=>.bin op u v
 |some (.array _ _),.neq=>match ktT P xt with
   |some kt=>if kt.agg=true then .aeq true kt u v else .bin op u v
   |none=>.bin op u v
 |_,_=>.bin op u v
def GW(P:Program)(t:TypeId):Option (Nat×Bool):=
 match eu P t,ua P t with
 |some n,some g=>if g=true\/n=1 then some (n,g)else none
 |_,_=>none
def So(P:Program)(t:TypeId)(i:Nat):Option (Nat×TypeId):=
 match P.underlying t with
 |some (.struct fs)=>match fs[i]? with
   |some f=>some (f.offset,f.type)
   |none=>none
 |_=>none
def XL(P:Program)(c:Call):Option Act':=
 match c with
 | { callee:=.builtin .len,args:=args,argTypes:=ts }=>match args.toList,ts.toList with
   |[x],[t]=>match cO P t x,P.underlying t with
     |some u,some .string=>some (.lens u)
     |some u,some (.slice _)=>some (.lenq u)
     |_,_=>none
   |_,_=>none
 | { callee:=.builtin .append,args:=args,argTypes:=ts }=>match args.toList,ts.toList with
   |[x,y],[t,t']=>if t=t' then(match P.underlying t with
     |some (.slice e)=>match P.info? e with
       |some i=>match i.zero,cO P t x,cO P t y with
         |some z,some x',some y'=>if 0<i.bytes/\z.cells.size=i.size/\0<i.size then some (.app x' y' e i.size i.bytes)else none
         |_,_,_=>none
       |none=>none
     |_=>none)else(match P.underlying t,P.underlying t' with
     |some (.slice e),some .string=>match P.info? e with
       |some i=>match i.zero,cO P t x,cO P t' y with
         |some (.int .u8 0),some x',some y'=>if i.size=1/\i.bytes=1 then some (.aps x' y' e)else none
         |_,_,_=>none
       |none=>none
     |_,_=>none)
   |_,_=>none
 | { callee:=.builtin .delete,args:=args,argTypes:=ts }=>match args.toList,ts.toList with
   |[x,k],[t,t']=>match P.underlying t with
     |some (.map K _)=>if t'=K then(match ktT P K,cO P t x,cO P K k with
       |some kt,some u,some b=>some (.del kt u b)
       |_,_,_=>none)else none
     |_=>none
   |_,_=>none
 | { callee:=.builtin .unsafeSliceData,args:=args,argTypes:=ts }=>match args.toList,ts.toList with
   |[x],[t]=>match cO P t x,P.underlying t with
     |some u,some (.slice _)=>some (.usd u)
     |_,_=>none
   |_,_=>none
 | { callee:=.builtin .unsafeString,args:=args,argTypes:=ts }=>match args.toList,ts.toList with
   |[p,n],[pt,it]=>match P.underlying pt,cO P pt p,cO P it n with
     |some (.pointer e),some u,some v=>if P.cellsOf e=1 then some (.ust u v e)else none
     |_,_,_=>none
   |_,_=>none
 | { callee:=.builtin .max,args:=args,argTypes:=ts }=>match args.toList,ts.toList with
   |[x,y],[t,t']=>match cO P t x,cO P t' y with
     |some u,some v=>some (.mm true u v)
     |_,_=>none
   |_,_=>none
 | { callee:=.builtin .min,args:=args,argTypes:=ts }=>match args.toList,ts.toList with
   |[x,y],[t,t']=>match cO P t x,cO P t' y with
     |some u,some v=>some (.mm false u v)
     |_,_=>none
   |_,_=>none
 | { callee:=.invoke r name,args:=args,argTypes:=ts }=>match cO P 0 r,cOs P ts.toList args.toList with
   |some x,some xs=>some (if((aak P name).any fun y=>y.2.2.isSome)=true then .ivp (aak P name) x xs else .inv (adw P name) x xs)
   |_,_=>none
 | { callee:=.value (.func f),args:=args,argTypes:=ts }=>match cOs P ts.toList args.toList with
   |some xs=>some (.call f xs)
   |none=>none
 | { callee:=.value (.tmp g),args:=args,argTypes:=ts }=>match cOs P ts.toList args.toList with
   |some xs=>some (.callv (.t g) xs)
   |none=>none
 |_=>none
def VW:Operand->Operand->Bool
 | .tmp a,.tmp b=>decide (a=b)
 | .const (.int k n),.const (.int k' n')=>decide (k=k'/\n=n')
 |_,_=>false
theorem PD{x y:Operand}(h:VW x y=true):x=y:=by
 unfold VW at h;split at h
 ·simp at h;rw[h]
 ·simp at h;rw[h.1,h.2]
 ·cases h
def adK(P:Program)(op:BinOp)(xt:TypeId)(y:Operand):Option (Nat×Bool):=match y,op with
 | .const c,.eql=>match IP P xt c with
   |some k=>some (k,false)
   |none=>none
 | .const c,.neq=>match IP P xt c with
   |some k=>some (k,true)
   |none=>none
 |_,_=>none
theorem Ur{P:Program}{op:BinOp}{xt:TypeId}{y:Operand}{k:Nat}{neg:Bool}(h:adK P op xt y=some (k,neg)):∃c,y=.const c/\IP P xt c=some k/\((op=.eql/\neg=false)\/(op=.neq/\neg=true)):=by
 unfold adK at h;split at h
 ·split at h
  ·cases h;exact⟨_,rfl,‹_›,.inl ⟨rfl,rfl⟩⟩
  ·cases h
 ·split at h
  ·cases h;exact⟨_,rfl,‹_›,.inr ⟨rfl,rfl⟩⟩
  ·cases h
 ·cases h
def dJ(P:Program)(ty:TypeId):Op->Option Act'
 | .move x=>(cO P ty x).map .mov
 | .assign x=>(cO P ty x).map .mov
 | .pick c a b=>match cO P ty c,cO P ty a,cO P ty b with
   |some c',some a',some b'=>some (.pick c' a' b')
   |_,_,_=>none
 | .field t x i=>match cO P t x,So P t i with
   |some y,some (off,ft)=>match GW P ft with
     |some (n,g)=>some (.fld y off n g)
     |none=>none
   |_,_=>none
 | .fieldAddr t x i=>match cO P 0 x,So P t i with
   |some y,some (off,ft)=>match eu P ft with
     |some n=>if n≠0 then some (.fa y off)else none
     |none=>none
   |_,_=>none
 | .indexAddr t x i=>match cO P 0 i,P.underlying t with
   |some j,some (.slice e)=>match cO P t x,eu P e with
     |some y,some n=>some (.ia y j n)
     |_,_=>none
   |some j,some (.array m e)=>match cO P 0 x,eu P e with
     |some y,some n=>some (.iaa y j m n)
     |_,_=>none
   |_,_=>none
 | .load t x=>match cO P 0 x,GW P t with
   |some y,some (n,g)=>some (.ld y n g)
   |_,_=>none
 | .index t x i=>match cO P t x,cO P 0 i,P.underlying t with
   |some y,some j,some .string=>some (.ixs y j)
   |some y,some j,some (.array m e)=>match GW P e with
     |some (n,g)=>some (.ixa y j m n g)
     |none=>none
   |_,_,_=>none
 | .binOp op xt x y yt=>match cO P xt x,adK P op xt y with
   |some u,some (k,neg)=>some (.nlq k neg u)
   |some u,none=>match cO P yt y with
     |some v=>some (adL P op xt u v)
     |none=>none
   |none,_=>none
 | .unOp op t x=>(cO P t x).map (.un op)
 | .convert s d x=>match cO P s x,P.underlying s,P.underlying d with
   |some u,some (.slice e),some .string=>match P.underlying e with
     |some (.int .u8)=>some (.b2s u)
     |_=>none
   |some u,some _,some (.int k)=>some (.cii k u)
   |some u,some (.int _),some .string=>some (.r2s u)
   |some u,some .string,some (.slice e)=>match P.underlying e with
     |some (.int .u8)=>some (.s2b u)
     |_=>none
   |some u,some (.slice e),some (.slice _)=>match P.underlying e with
     |some (.int .u8)=>if s=d then some (.cvb u)else none
     |_=>none
   |_,_,_=>none
 | .slice t x lo hi none=>match cO P t x,cOo P 0 lo,cOo P 0 hi with
   |some u,some lo',some hi'=>match P.underlying t with
     |some .string=>some (.sls u lo' hi')
     |some (.slice e)=>match eu P e with
       |some n=>some (.slq u lo' hi' n)
       |none=>none
     |_=>none
   |_,_,_=>none
 | .extract x i=>(cO P 0 x).map fun u=>.ext u i
 | .build t parts=>match P.built t [],P.info? t with
   |some _,some i=>match i.zero with
     |some (.agg z)=>match Oh P 20 t with
       |some zc=>match cSs P zc z.toList,yz P t parts.toList with
         |some zs,some ps=>some (.bld zs ps)
         |_,_=>none
       |none=>none
     |_=>none
   |_,_=>none
 | .makeFunc f a b=>match cOs P (zBa a.size 0) a.toList,cOs P (zBa b.size 0) b.toList with
   |some a',some b'=>some (.mkf f a' b')
   |_,_=>none
 | .nilCheck x=>(cO P 0 x).map .nlc
 | .alloc e=>match P.info? e with
   |some i=>match i.zero with
     |some z=>match cV P e z with
       |some v=>if nt v=true then some (.alb e 0 (cl v))else none
       |none=>none
     |none=>none
   |none=>none
 | .box e x=>(cO P e x).map .box
 | .store t p x=>match cO P 0 p,cO P t x,eu P t with
   |some p',some x',some n=>some (.st n p' x')
   |_,_,_=>none
 | .buildSlice t len parts=>match P.underlying t with
   |some (.slice e)=>match P.info? e with
     |some i=>match i.zero with
       |some z=>match cOs P (zBa len e) (parts.toList.map (·.2))with
         |some xs=>if 0<i.size/\z.cells.size=i.size/\len*i.size<=16777216/\parts.toList.map (·.1)=zBf len then some (.lit e i.size xs)else none
         |none=>none
       |none=>none
     |none=>none
   |_=>none
 | .makeSlice t l l'=>if VW l l'=true then(match P.underlying t with
    |some (.slice e)=>match P.info? e with
      |some i=>match i.zero with
        |some (.slice none 0 0)=>match P.underlying e with
          |some (.slice e2)=>match P.info? e2,cO P 0 l with
            |some i2,some u=>if 0<i.bytes/\i.size=1/\0<i2.size then some (.mkm e i.bytes e2 i2.size u)else none
            |_,_=>none
          |_=>none
        |some z=>match cV P e z,cO P 0 l with
          |some v,some u=>match pur [] v with
            |some v'=>if nt v=true/\0<i.bytes/\0<i.size/\z.cells.size=i.size then some (.mks e i.size i.bytes v' u)else none
            |none=>none
          |_,_=>none
        |none=>none
      |none=>none
    |_=>none)else(match l with
      | .const (.int _ 0)=>(match P.underlying t with
        |some (.slice e)=>match P.info? e with
          |some i=>match i.zero,cO P 0 l' with
            |some _,some u=>if 0<i.bytes/\0<i.size then some (.mk0 e i.size i.bytes u)else none
            |_,_=>none
          |none=>none
        |_=>none)
      |_=>none)
 | .makeInterface t x=>match cO P t x,P.underlying t with
   |some u,some ds=>match ds with
     | .interface _=>none
     |_=>some (.mki t u)
   |_,_=>none
 | .typeAssert x xt t okk=>match P.underlying t,cO P xt x,P.info? t with
   |some ds,some u,some i=>match i.zero with
     |some z=>match cV P t z with
       |some zv=>match ds with
         | .interface _=>none
         |_=>some (.tya t zv okk u)
       |none=>none
     |none=>none
   |_,_,_=>none
 | .range t x=>match cO P t x,P.underlying t with
   |some u,some .string=>some (.rgs u)
   |_,_=>none
 | .next x true=>(cO P 0 x).map .nxs
 | .makeMap t none=>match P.underlying t with
   |some (.map K _)=>match ktT P K with
     |some kt=>some (.mkp kt)
     |none=>none
   |_=>none
 | .lookup t x k okk=>match P.underlying t with
   |some (.map K E)=>match ktT P K,cO P t x,cO P K k,P.info? E with
     |some kt,some u,some v,some i=>match i.zero with
       |some z=>match cV P E z with
         |some zv=>some (.lkp kt zv okk u v)
         |none=>none
       |none=>none
     |_,_,_,_=>none
   |_=>none
 | .mapUpdate t x k v=>match P.underlying t with
   |some (.map K E)=>match ktT P K,cO P t x,cO P K k,cO P E v with
     |some kt,some u,some b,some c=>some (.mup kt u b c)
     |_,_,_,_=>none
   |_=>none
 | .insert t x k v=>match P.underlying t with
   |some (.map K E)=>match ktT P K,cO P t x,cO P K k,cO P E v with
     |some kt,some u,some b,some c=>some (.mup kt u b c)
     |_,_,_,_=>none
   |_=>none
 | .call c=>XL P c
 |_=>none
theorem nA {P:Program} {t:TypeId} {n:Nat} {g:Bool} (h:GW P t=some (n,g)):eu P t=some n∧ua P t=some g∧(g=false→n=1):=by
 unfold GW at h
 split at h
 · rename_i n' g' h1 h2
   split at h
   · rename_i hc
     cases h
     exact ⟨h1,h2,fun hg=>by rcases hc with h | h; · rw [hg] at h; cases h
                             · exact h⟩
   · cases h
 · cases h
theorem DD{P:Program}{t:TypeId}{i off:Nat}{ft:TypeId}(h:So P t i=some (off,ft)):∃fs f,P.underlying t=some (.struct fs)/\fs[i]?=some f/\off=f.offset/\ft=f.type:=by
 unfold So at h;split at h
 ·rename_i fs h1
  split at h
  ·rename_i f h2;cases h;exact⟨fs,f,h1,h2,rfl,rfl⟩
  ·cases h
 ·cases h
theorem Us {P:Program} {ty xt yt:TypeId} {op:BinOp} {x y:Operand} {u v:AO} (hu:cO P xt x=some u) (hv:cO P yt y=some v):LV P ty (.binOp op xt x y yt) (adL P op xt u v):=by
 unfold adL
 split
 · exact .beq ‹_› hu hv
 · exact .bne ‹_› hu hv
 all_goals
  first
   | exact .bin hu hv
   | (split
      · split
        · first | exact .aeq ‹_› ‹_› hu hv | exact .ane ‹_› ‹_› hu hv
        · exact .bin hu hv
      · exact .bin hu hv)
theorem Rh{P:Program}{ty:TypeId}{c:Call}{x:Act'}(h:XL P c=some x):LV P ty (.call c) x\/LE P ty (.call c) x:=by
 unfold XL at h;split at h
 ·rename_i args ts
  split at h
  ·rename_i x t hx ht
   have e1:args=#[x]:=by apply zAi;simpa using hx
   have e2:ts=#[t]:=by apply zAi;simpa using ht
   subst e1;subst e2;split at h
   ·cases h;exact .inl (.lens ‹_› ‹_›)
   ·cases h;exact .inl (.lenq ‹_› ‹_›)
   ·cases h
  ·cases h
 ·rename_i args ts
  split at h
  ·rename_i x y t t' hx ht
   have e1:args=#[x,y]:=by apply zAi;simpa using hx
   have e2:ts=#[t,t']:=by apply zAi;simpa using ht
   subst e1;subst e2;split at h
   ·rename_i ett
    subst ett;split at h
    ·split at h
     ·split at h
      ·split at h
       ·rename_i hc;cases h;exact .inr (.app ‹_› ‹_› ‹_› rfl rfl hc.1 hc.2.1 hc.2.2 ‹_› ‹_›)
       ·cases h
      ·cases h
     ·cases h
    ·cases h
   ·split at h
    ·rename_i h1 h2
     split at h
     ·rename_i h3
      split at h
      ·rename_i h4 h5 h6
       split at h
       ·rename_i hc;cases h;exact .inr (.aps h1 h2 h3 h4 hc.1 hc.2 h5 h6)
       ·cases h
      ·cases h
     ·cases h
    ·cases h
  ·cases h
 ·rename_i args ts
  split at h
  ·rename_i x k t t' hx ht
   have e1:args=#[x,k]:=by apply zAi;simpa using hx
   have e2:ts=#[t,t']:=by apply zAi;simpa using ht
   subst e1;subst e2;split at h
   ·rename_i h1
    split at h
    ·rename_i ett
     subst ett;split at h
     ·rename_i h2 h3 h4
      cases h;exact .inr (.del h1 h2 h3 h4)
     ·cases h
    ·cases h
   ·cases h
  ·cases h
 ·rename_i args ts
  split at h
  ·rename_i x t hx ht
   have e1:args=#[x]:=by apply zAi;simpa using hx
   have e2:ts=#[t]:=by apply zAi;simpa using ht
   subst e1;subst e2;split at h
   ·rename_i h1 h2
    cases h;exact .inr (.usd h1 h2)
   ·cases h
  ·cases h
 ·rename_i args ts
  split at h
  ·rename_i p n pt it hx ht
   have e1:args=#[p,n]:=by apply zAi;simpa using hx
   have e2:ts=#[pt,it]:=by apply zAi;simpa using ht
   subst e1;subst e2;split at h
   ·rename_i h1 h2 h3
    split at h
    ·rename_i hc
     cases h;exact .inr (.ust h1 hc h2 h3)
    ·cases h
   ·cases h
  ·cases h
 ·rename_i args ts
  split at h
  ·rename_i x y t t' hx ht
   have e1:args=#[x,y]:=by apply zAi;simpa using hx
   have e2:ts=#[t,t']:=by apply zAi;simpa using ht
   subst e1;subst e2;split at h
   ·cases h;exact .inl (.mmx ‹_› ‹_›)
   ·cases h
  ·cases h
 ·rename_i args ts
  split at h
  ·rename_i x y t t' hx ht
   have e1:args=#[x,y]:=by apply zAi;simpa using hx
   have e2:ts=#[t,t']:=by apply zAi;simpa using ht
   subst e1;subst e2;split at h
   ·cases h;exact .inl (.mmn ‹_› ‹_›)
   ·cases h
  ·cases h
 ·split at h
  ·simp only[zAb]at h
   subst h;split
   ·exact .inr (.ivp ‹_› rfl ‹_›)
   ·exact .inr (.inv ‹_› rfl ‹_›)
  ·cases h
 ·split at h
  ·cases h;exact .inr (.call ‹_›)
  ·cases h
 ·split at h
  ·cases h;exact .inr (.callv ‹_›)
  ·cases h
 ·cases h
theorem Ut{P:Program}{ty:TypeId}{o:Op}{x:Act'}(h:dJ P ty o=some x):LV P ty o x\/LE P ty o x:=by
 cases o with
 |move x=>simp only[dJ,zAc]at h;obtain⟨y,hy,rfl⟩:=h;exact .inl (.move hy)
 |assign x=>simp only[dJ,zAc]at h;obtain⟨y,hy,rfl⟩:=h;exact .inl (.assign hy)
 |pick c a b=>
   simp only[dJ]at h;split at h
   ·cases h;exact .inl (.pick ‹_› ‹_› ‹_›)
   ·cases h
 |field t x i=>
   simp only[dJ]at h;split at h
   ·rename_i y off ft hy hs
    obtain⟨fs,f,h1,h2,rfl,rfl⟩:=DD hs;split at h
    ·rename_i n g hn
     obtain⟨k1,k2,k3⟩:=nA hn;cases h;exact .inl (.field hy h1 h2 k1 k2 k3)
    ·cases h
   ·cases h
 |fieldAddr t x i=>
   simp only[dJ]at h;split at h
   ·rename_i y off ft hy hs
    obtain⟨fs,f,h1,h2,rfl,rfl⟩:=DD hs;split at h
    ·split at h
     ·cases h;exact .inl (.fieldAddr hy h1 h2 ‹_› ‹_›)
     ·cases h
    ·cases h
   ·cases h
 |indexAddr t x i=>
   simp only[dJ]at h;split at h
   ·split at h
    ·cases h;exact .inl (.indexAddr ‹_› ‹_› ‹_› ‹_›)
    ·cases h
   ·split at h
    ·cases h;exact .inl (.indexAddrA ‹_› ‹_› ‹_› ‹_›)
    ·cases h
   ·cases h
 |load t x=>
   simp only[dJ]at h;split at h
   ·rename_i y n g hy hs
    obtain⟨k1,k2,k3⟩:=nA hs;cases h;exact .inl (.load hy k1 k2 k3)
   ·cases h
 |index t x i=>
   simp only[dJ]at h;split at h
   ·cases h;exact .inl (.indexS ‹_› ‹_› ‹_›)
   ·split at h
    ·rename_i n g hs
     obtain⟨k1,k2,k3⟩:=nA hs;cases h;exact .inl (.indexA ‹_› ‹_› ‹_› k1 k2 k3)
    ·cases h
   ·cases h
 |binOp op xt x y yt=>
   simp only[dJ]at h;split at h
   ·rename_i hn
    cases h;obtain⟨c,rfl,h1,h2⟩:=Ur hn;exact .inl (.nlq h1 h2 ‹_›)
   ·split at h
    ·cases h;exact .inl (Us ‹_› ‹_›)
    ·cases h
   ·cases h
 |unOp op t x=>simp only[dJ,zAc]at h;obtain⟨y,hy,rfl⟩:=h;exact .inl (.un hy)
 |convert s d x=>
   simp only[dJ]at h;split at h
   ·split at h
    ·cases h;exact .inr (.b2s ‹_› ‹_› ‹_› ‹_›)
    ·cases h
   ·cases h;exact .inl (.cii ‹_› ‹_› ‹_›)
   ·cases h;exact .inl (.r2s ‹_› ‹_› ‹_›)
   ·split at h
    ·cases h;exact .inr (.s2b ‹_› ‹_› ‹_› ‹_›)
    ·cases h
   ·split at h
    ·split at h
     ·rename_i e
      subst e;cases h;have h8:=‹P.underlying _=some (TypeDesc.int IntKind.u8)›;exact .inr (.cvb ‹_› (by assumption) h8)
     ·cases h
    ·cases h
   ·cases h
 |slice t x lo hi m=>
   cases m with
   |some m=>simp only[dJ]at h;cases h
   |none=>
     simp only[dJ]at h;split at h
     ·split at h
      ·cases h;exact .inl (.sls ‹_› ‹_› ‹_› ‹_›)
      ·split at h
       ·cases h;exact .inl (.slq ‹_› ‹_› ‹_› ‹_› ‹_›)
       ·cases h
      ·cases h
     ·cases h
 |extract x i=>simp only[dJ,zAc]at h;obtain⟨y,hy,rfl⟩:=h;exact .inl (.ext hy)
 |build t parts=>
   simp only[dJ]at h;split at h
   ·split at h
    ·split at h
     ·split at h
      ·cases h;exact .inl (.bld ‹_› ‹_› ‹_› ‹_› ‹_› ‹_›)
      ·cases h
     ·cases h
    ·cases h
   ·cases h
 |makeFunc f a b=>
   simp only[dJ]at h;split at h
   ·cases h;exact .inl (.mkf ‹_› ‹_›)
   ·cases h
 |nilCheck x=>simp only[dJ,zAc]at h;obtain⟨y,hy,rfl⟩:=h;exact .inl (.nlc hy)
 |alloc e=>
   simp only[dJ]at h;split at h
   ·split at h
    ·split at h
     ·split at h
      ·cases h;exact .inr (.alb ‹_› ‹_› ‹_› ‹_›)
      ·cases h
     ·cases h
    ·cases h
   ·cases h
 |box e x=>simp only[dJ,zAc]at h;obtain⟨y,hy,rfl⟩:=h;exact .inr (.box hy)
 |store t p x=>
   simp only[dJ]at h;split at h
   ·cases h;exact .inr (.store ‹_› ‹_› ‹_›)
   ·cases h
 |buildSlice t len parts=>
   simp only[dJ]at h;split at h
   ·split at h
    ·split at h
     ·split at h
      ·split at h
       ·rename_i hc;cases h;exact .inr (.lit ‹_› ‹_› rfl hc.1 ‹_› hc.2.1 hc.2.2.1 hc.2.2.2 ‹_›)
       ·cases h
      ·cases h
     ·cases h
    ·cases h
   ·cases h
 |makeSlice t l l'=>
   simp only[dJ]at h;split at h
   ·rename_i hab
    have hab:=PD hab;subst hab;split at h
    ·split at h
     ·split at h
      ·split at h
       ·split at h
        ·split at h
         ·rename_i hc;cases h;exact .inr (.mkm ‹_› ‹_› ‹_› hc.2.1 rfl hc.1 ‹_› ‹_› rfl hc.2.2 ‹_›)
         ·cases h
        ·cases h
       ·cases h
      ·split at h
       ·split at h
        ·split at h
         ·rename_i hc;cases h;exact .inr (.mks ‹_› ‹_› ‹_› ‹_› hc.1 ‹_› rfl rfl hc.2.1 hc.2.2.1 ‹_› hc.2.2.2)
         ·cases h
        ·cases h
       ·cases h
      ·cases h
     ·cases h
    ·cases h
   ·split at h
    ·split at h
     ·split at h
      ·split at h
       ·split at h
        ·rename_i hc;cases h;exact .inr (.mk0 ‹_› ‹_› ‹_› rfl rfl hc.1 hc.2 ‹_›)
        ·cases h
       ·cases h
      ·cases h
     ·cases h
    ·cases h
 |makeInterface t x=>
   simp only[dJ]at h;split at h
   ·rename_i u ds hu hds
    split at h
    ·cases h
    ·rename_i hne
     cases h;exact .inl (.mki hu hds (fun ms e=>hne ms e))
   ·cases h
 |typeAssert x xt t okk=>
   simp only[dJ]at h;split at h
   ·rename_i ds u i hds hu hi
    split at h
    ·rename_i z hz
     split at h
     ·rename_i zv hzv
      split at h
      ·cases h
      ·rename_i hne
       cases h;exact .inl (.tya hds (fun ms e=>hne ms e) hu hi hz hzv)
     ·cases h
    ·cases h
   ·cases h
 |range t x=>
   simp only[dJ]at h;split at h
   ·cases h;exact .inr (.rgs ‹_› ‹_›)
   ·cases h
 |next x b=>
   cases b with
   |true=>
     simp only[dJ,zAc]at h;obtain⟨u,hu,rfl⟩:=h;exact .inr (.nxs hu)
   |false=>simp only[dJ]at h;cases h
 |makeMap t r=>
   cases r with
   |some r=>simp only[dJ]at h;cases h
   |none=>
     simp only[dJ]at h;split at h
     ·split at h
      ·cases h;exact .inr (.mkp ‹_› ‹_›)
      ·cases h
     ·cases h
 |lookup t x k okk=>
   simp only[dJ]at h;split at h
   ·split at h
    ·split at h
     ·split at h
      ·cases h;exact .inl (.lkp ‹_› ‹_› ‹_› ‹_› ‹_› ‹_› ‹_›)
      ·cases h
     ·cases h
    ·cases h
   ·cases h
 |mapUpdate t x k v=>
   simp only[dJ]at h;split at h
   ·split at h
    ·cases h;exact .inr (.mup ‹_› ‹_› ‹_› ‹_› ‹_›)
    ·cases h
   ·cases h
 |insert t x k v=>
   simp only[dJ]at h;split at h
   ·split at h
    ·cases h;exact .inr (.mui ‹_› ‹_› ‹_› ‹_› ‹_›)
    ·cases h
   ·cases h
 |call c=>simp only[dJ]at h;exact Rh h
 |_=>simp only[dJ]at h;cases h
def XI(P:Program)(N:Nat)(ps:List Nat)(ops:Array Oper)(o:Oper):Option AOp:=
 match(dJ P o.type o.op).getD .bad,(match o.dst with
  |some t=>decide (t<N)&& !gZ t ps
  |none=>true)with
 |a,true=>match o.guard with
   |none=>some ⟨o.dst,a,none⟩
   |some (j,b)=>match ops[j]? with
     |some oj=>match oj.dst with
       |some t=>some ⟨o.dst,a,some (t,b)⟩
       |none=>none
     |none=>none
 |_,_=>none
def oD(P:Program)(N:Nat)(ps:List Nat)(ops:Array Oper):List Oper->Option (List AOp)
 |[]=>some []
 |o::os=>match XI P N ps ops o,oD P N ps ops os with
   |some x,some xs=>some (x::xs)
   |_,_=>none
def mkD(E:List Nat)(d:Option Nat):Bool:=match d with
 |some t=>gZ (3000000+t) E
 |none=>false
def mkC(E:List Nat)(d:Option Nat):Bool:=match d with
 |some t=>gZ (5000000+t) E
 |none=>false
def mkB(E:List Nat)(d:Option Nat):Option Nat:=match d with
 |some t=>(E.find? fun m=>decide (m/1000000=1000000+t)).map (· %1000000)
 |none=>none
def adA(E:List Nat)(x:AOp):AOp:=match x.a with
 | .call f xs=>if(gZ f E||mkC E x.d)=true then⟨x.d,.callH f xs,x.g⟩else x
 | .slq y none (some hi) sz=>if gZ 1000000 E=true then⟨x.d,.trc y hi sz,x.g⟩else x
 | .callv g xs=>if gZ 1000002 E=true then⟨x.d,.yld g xs,x.g⟩else x
 | .lit e sz ys=>if(gZ 1000001 E||(gZ (2000000+e) E||mkD E x.d))=true then⟨x.d,.ltr e sz ys,x.g⟩else x
 | .alb t _ z=>if mkD E x.d=true then⟨x.d,.alq z,x.g⟩else match mkB E x.d with
   |some e=>⟨x.d,.alb t e z,x.g⟩
   |none=>⟨x.d,.alc z,x.g⟩
 | .mks e sz by' z n=>if mkD E x.d=true then⟨x.d,.mkq e sz by' z n,x.g⟩else x
 | .s2b y=>if mkD E x.d=true then⟨x.d,.sbq y,x.g⟩else x
 | .box y=>if mkD E x.d=true then⟨x.d,.bxq y,x.g⟩else x
 | .app (.v (.nil _)) y e sz by'=>if mkD E x.d=true then⟨x.d,.apz y e sz by',x.g⟩else x
 | .app (.t r) y e sz by'=>if(mkD E x.d&&(decide (sz=1)&&decide (by'=1)))=true then⟨x.d,.apb (.t r) y e,x.g⟩else x
 |_=>x
def fHs(E:List Nat):List AOp->List AOp
 |[]=>[]
 |x::xs=>adA E x::fHs E xs
section
variable{P:Program}
theorem aa6{ty:TypeId}{op:Op}{f:FuncId}{xs:List AO}(h:LV P ty op (.call f xs)):False:=by cases h
theorem Yg{ty:TypeId}{op:Op}{f:FuncId}{xs:List AO}(h:LE P ty op (.call f xs)):LE P ty op (.callH f xs):=by
 cases h;exact .callH ‹_›
theorem Yd{ty:TypeId}{op:Op}{f:AO}{xs:List AO}(h:LV P ty op (.callv f xs)):False:=by cases h
theorem aeX{ty:TypeId}{op:Op}{f:AO}{xs:List AO}(h:LE P ty op (.callv f xs)):LE P ty op (.yld f xs):=by
 cases h;exact .yld ‹_›
theorem aeU{ty:TypeId}{op:Op}{e sz:Nat}{xs:List AO}(h:LV P ty op (.lit e sz xs)):False:=by cases h
theorem ae1{ty:TypeId}{op:Op}{e sz:Nat}{xs:List AO}(h:LE P ty op (.lit e sz xs)):LE P ty op (.ltr e sz xs):=by
 cases h with
 |lit h1 h2 h3 h4 h5 h6 h7 h8 h9=>exact .ltr h1 h2 h3 h4 h5 h6 h7 h8 h9
theorem Ry{ty:TypeId}{op:Op}{z:List V}{t q:Nat}(h:LV P ty op (.alb t q z)):False:=by cases h
theorem ae5{ty:TypeId}{op:Op}{z:List V}{t q:Nat}(h:LE P ty op (.alb t q z)):LE P ty op (.alq z):=by
 cases h with
 |alb h1 h2 h3 h4=>exact .alq h1 h2 h3 h4
theorem ae6{ty:TypeId}{op:Op}{z:List V}{t q:Nat}(h:LE P ty op (.alb t q z)):LE P ty op (.alc z):=by
 cases h with
 |alb h1 h2 h3 h4=>exact .alloc h1 h2 h3 h4
theorem ae7{ty:TypeId}{op:Op}{z:List V}{t p q:Nat}(h:LE P ty op (.alb t p z)):LE P ty op (.alb t q z):=by
 cases h with
 |alb h1 h2 h3 h4=>exact .alb h1 h2 h3 h4
theorem ae4{ty:TypeId}{op:Op}{x y:AO}{e:Nat}(h:LE P ty op (.app x y e 1 1)):LE P ty op (.apb x y e):=by
 cases h with
 |app h1 h2 h3 h4 h5 h6 h7 h8 h9 h10=>exact .apb h1 h2 h3 h4 h5 h7 h9 h10
theorem aeT{ty:TypeId}{op:Op}{e sz by':Nat}{z:V}{n:AO}(h:LV P ty op (.mks e sz by' z n)):False:=by cases h
theorem ae0{ty:TypeId}{op:Op}{e sz by':Nat}{z:V}{n:AO}(h:LE P ty op (.mks e sz by' z n)):LE P ty op (.mkq e sz by' z n):=by
 cases h with
 |mks h1 h2 h3 h4 h5 h6 h7 h8 h9 h10 h11 h12=>exact .mkq h1 h2 h3 h4 h5 h6 h7 h8 h9 h10 h11 h12
theorem aeS{ty:TypeId}{op:Op}{y:AO}(h:LV P ty op (.s2b y)):False:=by cases h
theorem aeZ{ty:TypeId}{op:Op}{y:AO}(h:LE P ty op (.s2b y)):LE P ty op (.sbq y):=by
 cases h with
 |s2b h1 h2 h3 h4=>exact .sbq h1 h2 h3 h4
theorem aeW{ty:TypeId}{op:Op}{y:AO}(h:LV P ty op (.box y)):False:=by cases h
theorem ae2{ty:TypeId}{op:Op}{y:AO}(h:LE P ty op (.box y)):LE P ty op (.bxq y):=by
 cases h with
 |box h1=>exact .bxq h1
theorem Ye{ty:TypeId}{op:Op}{x y:AO}{e sz by':Nat}(h:LV P ty op (.app x y e sz by')):False:=by cases h
theorem ae3{ty:TypeId}{op:Op}{s0:Nat}{y:AO}{e sz by':Nat}(h:LE P ty op (.app (.v (.nil s0)) y e sz by')):LE P ty op (.apz y e sz by'):=by
 cases h with
 |app h1 h2 h3 h4 h5 h6 h7 h8 h9 h10=>exact .apz h1 h2 h3 h4 h5 h6 h7 h8 h9 h10
theorem aeY{ty:TypeId}{op:Op}{y:AO}{lo hi:Option AO}{sz:Nat}(h:LE P ty op (.slq y lo hi sz)):False:=by cases h
theorem XK{t:TypeId}{o:Option Operand}(h:cOo P t o=some none):o=none:=by
 cases o with
 |none=>rfl
 |some o=>simp only[cOo,zAc]at h;obtain⟨_,_,h⟩:=h;cases h
theorem XJ{t:TypeId}{o:Option Operand}{y:AO}(h:cOo P t o=some (some y)):∃o',o=some o'/\cO P t o'=some y:=by
 cases o with
 |none=>simp only[cOo,zAb]at h;cases h
 |some o=>simp only[cOo,zAc]at h;obtain⟨z,h,e⟩:=h;cases e;exact⟨o,rfl,h⟩
theorem aeR{ty:TypeId}{op:Op}{y hi:AO}{sz:Nat}(h:LV P ty op (.slq y none (some hi) sz)):LE P ty op (.trc y hi sz):=by
 cases h with
 |slq h1 h2 h3 h4 h5=>
   have e1:=XK h2;obtain⟨o',e2,h6⟩:=XJ h3;subst e1;subst e2;exact .trc h1 h6 h4 h5
theorem Ua{E ps:List Nat}{N:Nat}{ops:Array Oper}{o:Oper}{x:AOp}(h:LO P N ps ops o x):LO P N ps ops o (adA E x):=by
 unfold adA;split
 ·rename_i f xs hx
  split
  ·refine⟨h.dst,h.lt,.inr (.inl ?_),h.grd⟩
   rcases h.act with h1|h1|h1
   ·rw[hx]at h1;exact(aa6 h1).elim
   ·rw[hx]at h1;exact Yg h1
   ·rw[hx]at h1;cases h1
  ·exact h
 ·rename_i y hi sz hx
  split
  ·refine⟨h.dst,h.lt,.inr (.inl ?_),h.grd⟩
   rcases h.act with h1|h1|h1
   ·rw[hx]at h1;exact aeR h1
   ·rw[hx]at h1;exact(aeY h1).elim
   ·rw[hx]at h1;cases h1
  ·exact h
 ·rename_i g xs hx
  split
  ·refine⟨h.dst,h.lt,.inr (.inl ?_),h.grd⟩
   rcases h.act with h1|h1|h1
   ·rw[hx]at h1;exact(Yd h1).elim
   ·rw[hx]at h1;exact aeX h1
   ·rw[hx]at h1;cases h1
  ·exact h
 ·rename_i e sz ys hx
  split
  ·refine⟨h.dst,h.lt,.inr (.inl ?_),h.grd⟩
   rcases h.act with h1|h1|h1
   ·rw[hx]at h1;exact(aeU h1).elim
   ·rw[hx]at h1;exact ae1 h1
   ·rw[hx]at h1;cases h1
  ·exact h
 ·rename_i t q z hx
  split
  ·refine⟨h.dst,h.lt,.inr (.inl ?_),h.grd⟩
   rcases h.act with h1|h1|h1
   ·rw[hx]at h1;exact(Ry h1).elim
   ·rw[hx]at h1;exact ae5 h1
   ·rw[hx]at h1;cases h1
  ·split
   ·refine⟨h.dst,h.lt,.inr (.inl ?_),h.grd⟩
    rcases h.act with h1|h1|h1
    ·rw[hx]at h1;exact(Ry h1).elim
    ·rw[hx]at h1;exact ae7 h1
    ·rw[hx]at h1;cases h1
   ·refine⟨h.dst,h.lt,.inr (.inl ?_),h.grd⟩
    rcases h.act with h1|h1|h1
    ·rw[hx]at h1;exact(Ry h1).elim
    ·rw[hx]at h1;exact ae6 h1
    ·rw[hx]at h1;cases h1
 ·rename_i e sz by' z n hx
  split
  ·refine⟨h.dst,h.lt,.inr (.inl ?_),h.grd⟩
   rcases h.act with h1|h1|h1
   ·rw[hx]at h1;exact(aeT h1).elim
   ·rw[hx]at h1;exact ae0 h1
   ·rw[hx]at h1;cases h1
  ·exact h
 ·rename_i y hx
  split
  ·refine⟨h.dst,h.lt,.inr (.inl ?_),h.grd⟩
   rcases h.act with h1|h1|h1
   ·rw[hx]at h1;exact(aeS h1).elim
   ·rw[hx]at h1;exact aeZ h1
   ·rw[hx]at h1;cases h1
  ·exact h
 ·rename_i y hx
  split
  ·refine⟨h.dst,h.lt,.inr (.inl ?_),h.grd⟩
   rcases h.act with h1|h1|h1
   ·rw[hx]at h1;exact(aeW h1).elim
   ·rw[hx]at h1;exact ae2 h1
   ·rw[hx]at h1;cases h1
  ·exact h
 ·rename_i s0 y e sz by' hx
  split
  ·refine⟨h.dst,h.lt,.inr (.inl ?_),h.grd⟩
   rcases h.act with h1|h1|h1
   ·rw[hx]at h1;exact(Ye h1).elim
   ·rw[hx]at h1;exact ae3 h1
   ·rw[hx]at h1;cases h1
  ·exact h
 ·rename_i r y e sz by' hx
  split
  ·rename_i hc
   simp only[zAd,decide_eq_true_eq]at hc;obtain⟨_,rfl,rfl⟩:=hc;refine⟨h.dst,h.lt,.inr (.inl ?_),h.grd⟩;rcases h.act with h1|h1|h1
   ·rw[hx]at h1;exact(Ye h1).elim
   ·rw[hx]at h1;exact ae4 h1
   ·rw[hx]at h1;cases h1
  ·exact h
 ·exact h
theorem Xg{E ps:List Nat}{N:Nat}{ops:Array Oper}{os:List Oper}{xs:List AOp}(h:LOs P N ps ops os xs):LOs P N ps ops os (fHs E xs):=by
 induction h with
 |nil=>exact .nil
 |cons h1 _ ih=>exact .cons (Ua h1) ih
end
def BA:AC->Bool
 | .seq a b=>BA a&&BA b
 | .label _=>false
 | .bad=>false
 |_=>true
def uQ(l:Nat):AC->Option AC
 | .seq a b=>match uQ l a with
   |some r=>some (.seq r b)
   |none=>if BA a=true then uQ l b else none
 | .label l'=>if(l' == l)=true then some .skip else none
 |_=>none
theorem P5{P:Program}{N:Nat}{ps:List Nat}{c:Code}{a:AC}(h:LC P N ps c a)(l:Nat):BA a=true->findLabel c l=none:=by
 induction h with
 |seq _ _ ih1 ih2=>
   intro hn;simp only[BA,zAd]at hn;simp only[findLabel,ih1 hn.1,ih2 hn.2]
 |label=>intro hn;simp[BA]at hn
 |bad=>intro hn;simp[BA]at hn
 |_=>intro _;rfl
theorem Oo{P:Program}{N:Nat}{ps:List Nat}{c:Code}{a:AC}(h:LC P N ps c a){l:Nat}:∀{b:AC},uQ l a=some b->∃rest,findLabel c l=some rest/\LC P N ps rest b:=by
 induction h with
 |seq h1 h2 ih1 ih2=>
   intro b hb;simp only[uQ]at hb;split at hb
   ·cases hb
    obtain⟨r,g1,g2⟩:=ih1 ‹_›;exact⟨_,by simp only[findLabel,g1],.seq g2 h2⟩
   ·split at hb
    ·rename_i hn
     obtain⟨r,g1,g2⟩:=ih2 hb;exact⟨r,by simp only[findLabel,P5 h1 l hn,g1],g2⟩
    ·cases hb
 | @label l'=>
   intro b hb;simp only[uQ]at hb;split at hb
   ·rename_i he
    cases hb;exact⟨.skip,by simp only[findLabel,he,if_true],.skip⟩
   ·cases hb
 |_=>intro b hb;simp[uQ]at hb
def bX(P:Program)(N:Nat)(ps E:List Nat):Code->List (List Nat)->Option (AC×List (List Nat))
 | .skip,K=>some (.skip,K)
 | .region _ ops false,ks::K=>match(oD P N ps ops ops.toList).map (fHs E)with
   |some xs=>some (.reg xs ks,K)
   |none=>none
 | .region _ ops true,[]::ks::K=>match(oD P N ps ops ops.toList).map (fHs E)with
   |some xs=>if xN xs=true/\ops.size=xs.length then(match By xs (EI ops ops.size (zAh ops.size false))with
     |some yss=>some (.regE yss ks,K)
     |none=>none)else some (.bad,K)
   |none=>none
 | .region _ ops true,(1::anc)::ks::K=>match(oD P N ps ops ops.toList).map (fHs E)with
   |some xs=>if Ls ops anc=true then(match Qk ops xs anc ops.size (zAh ops.size false)with
     |some yss=>some (.regF yss ks,K)
     |none=>none)else none
   |none=>none
 | .region _ ops true,(0::anc)::perm::ks::K=>match(oD P N ps ops ops.toList).map (fHs E)with
   |some xs=>if yo ops xs anc perm=true then(match jJ xs perm with
     |some ys=>some (.regD ys ks,K)
     |none=>none)else none
   |none=>none
 | .seq x y,K=>match bX P N ps E x K with
   |some (a,K')=>match bX P N ps E y K' with
     |some (b,K'')=>some (.seq a b,K'')
     |none=>none
   |none=>none
 | .cond c x y,K=>match cO P 0 c,bX P N ps E x K with
   |some c',some (a,K')=>match bX P N ps E y K' with
     |some (b,K'')=>some (.cond c' a b,K'')
     |none=>none
   |_,_=>none
 | .block id x,K=>match bX P N ps E x K with
   |some (a,K')=>some (.block id a,K')
   |none=>none
 | .loop x,ks::K=>match bX P N ps E x K with
   |some (a,K')=>some (.loop ks a,K')
   |none=>none
 | .exit id,K=>some (.exit id,K)
 | .ret,K=>some (.ret,K)
 | .rangeFunc _ _ _ _,K=>some (.bad,K)
 | .scope x,(l::ks)::K=>match bX P N ps E x K with
   |some (a,K')=>match uQ l a with
     |some b=>some (.scope l ks a b,K')
     |none=>some (.bad,K')
   |none=>none
 | .scope _,[]::K=>some (.bad,K)
 | .label l,K=>some (.label l,K)
 | .goto l,K=>some (.goto l,K)
 | .refuse _,K=>some (.bad,K)
 | .region _ _ _,_=>none
 | .loop _,_=>none
 | .scope _,_=>none
section
variable{P:Program}{N:Nat}{ps:List Nat}
theorem Rf{ops:Array Oper}{o:Oper}{x:AOp}(h:XI P N ps ops o=some x):LO P N ps ops o x:=by
 unfold XI at h;split at h
 ·rename_i a hd
  have ha:LV P o.type o.op ((dJ P o.type o.op).getD .bad)\/LE P o.type o.op ((dJ P o.type o.op).getD .bad)\/(dJ P o.type o.op).getD .bad=.bad:=by
   cases hc:dJ P o.type o.op with
   |none=>exact .inr (.inr rfl)
   |some y=>exact(Ut hc).elim .inl (fun h=>.inr (.inl h))
  have hlt:∀t,o.dst=some t->t<N/\t ∉ ps:=by
   intro t ht;rw[ht]at hd;simp only[zAd,decide_eq_true_eq,zBi]at hd;exact⟨hd.1,fun hm=>by rw[iZ.2 hm]at hd;cases hd.2⟩
  split at h
  ·rename_i hg
   cases h;exact⟨rfl,hlt,ha,.inl ⟨hg,rfl⟩⟩
  ·rename_i j b hg
   split at h
   ·rename_i oj hj
    split at h
    ·rename_i t ht
     cases h;exact⟨rfl,hlt,ha,.inr ⟨j,b,oj,t,hg,hj,ht,rfl⟩⟩
    ·cases h
   ·cases h
 ·cases h
theorem zX{ops:Array Oper}:∀{os:List Oper}{xs:List AOp},oD P N ps ops os=some xs->LOs P N ps ops os xs
 |[],xs,h=>by simp only[oD,zAb]at h;subst h;exact .nil
 |o::os,xs,h=>by
   simp only[oD]at h;split at h
   ·rename_i x ys hx hy;cases h;exact .cons (Rf hx) (zX hy)
   ·cases h
theorem vO{E:List Nat}{ops:Array Oper}{xs:List AOp}(h:(oD P N ps ops ops.toList).map (fHs E)=some xs):LOs P N ps ops ops.toList xs:=by
 obtain⟨ys,h1,rfl⟩:=zAc.1 h;exact Xg (zX h1)
theorem dY{E:List Nat}:∀{c:Code}{K K':List (List Nat)}{a:AC},bX P N ps E c K=some (a,K')->LC P N ps c a:=by
 intro c
 induction c with
 |skip=>intro K K' a h;simp only[bX,zAb,zBc]at h;rw[<-h.1];exact .skip
 |region id ops d=>
   intro K K' a h;cases d with
   |false=>
     cases K with
     |nil=>simp only[bX]at h;cases h
     |cons ks K=>
       simp only[bX]at h;split at h
       ·cases h;exact .reg (vO ‹_›)
       ·cases h
   |true=>
     match K,h with
     |[],h=>simp only[bX]at h;cases h
     |[[]],h=>simp only[bX]at h;cases h
     |[_::_],h=>simp only[bX]at h;cases h
     |[]::ks::K,h=>
       simp only[bX]at h;split at h
       ·split at h
        ·rename_i hc
         split at h
         ·cases h;exact .regE (vO ‹_›) hc.1 hc.2 ‹_›
         ·cases h
        ·cases h;exact .bad
       ·cases h
     |[0::anc,perm],h=>simp only[bX]at h;cases h
     |(1::anc)::ks::K,h=>
       simp only[bX]at h;split at h
       ·split at h
        ·rename_i hc
         split at h
         ·cases h;exact .regF (vO ‹_›) hc ‹_›
         ·cases h
        ·cases h
       ·cases h
     |((n+2)::l)::k::K,h=>simp only[bX]at h;cases h
     |(0::anc)::perm::ks::K,h=>
       simp only[bX]at h;split at h
       ·split at h
        ·rename_i hc
         split at h
         ·cases h;exact .regD (vO ‹_›) hc ‹_›
         ·cases h
        ·cases h
       ·cases h
 |seq x y ihx ihy=>
   intro K K' a h;simp only[bX]at h;split at h
   ·split at h
    ·cases h;exact .seq (ihx ‹_›) (ihy ‹_›)
    ·cases h
   ·cases h
 |cond c x y ihx ihy=>
   intro K K' a h;simp only[bX]at h;split at h
   ·split at h
    ·cases h;exact .cond (t:=0) ‹_› (ihx ‹_›) (ihy ‹_›)
    ·cases h
   ·cases h
 |block id x ih=>
   intro K K' a h;simp only[bX]at h;split at h
   ·cases h;exact .block (ih ‹_›)
   ·cases h
 |loop x ih=>
   intro K K' a h;cases K with
   |nil=>simp only[bX]at h;cases h
   |cons ks K=>
     simp only[bX]at h;split at h
     ·cases h;exact .loop (ih ‹_›)
     ·cases h
 |scope x ih=>
   intro K K' a h
   match K,h with
   |[],h=>simp only[bX]at h;cases h
   |[]::K,h=>simp only[bX,zAb,zBc]at h;rw[<-h.1];exact .bad
   |(l::ks)::K,h=>
     simp only[bX]at h;split at h
     ·split at h
      ·cases h
       have hx:=ih ‹_›;obtain⟨rest,g1,g2⟩:=Oo hx ‹_›;exact .scope hx g1 g2
      ·cases h;exact .bad
     ·cases h
 |label l=>intro K K' a h;simp only[bX,zAb,zBc]at h;rw[<-h.1];exact .label
 |goto l=>intro K K' a h;simp only[bX,zAb,zBc]at h;rw[<-h.1];exact .goto
 |exit id=>intro K K' a h;simp only[bX,zAb,zBc]at h;rw[<-h.1];exact .exit
 |ret=>intro K K' a h;simp only[bX,zAb,zBc]at h;rw[<-h.1];exact .ret
 |_=>intro K K' a h;simp only[bX,zAb,zBc]at h;rw[<-h.1];exact .bad
inductive RV where
 |t (n:Nat)
 |c (a n:Nat) (agg:Bool)
def xm(P:Program):List ResultVar->Option (List RV)
 |[]=>some []
 | .tmp t::rs=>(xm P rs).map (.t t::·)
 | .cell a t::rs=>match GW P t,xm P rs with
   |some (n,g),some xs=>some (.c a n g::xs)
   |_,_=>none
def St.rv(σ:St):RV->Option V
 | .t n=>match lk σ.r n with
   |some v=>if nt v=true then some v else none
   |none=>none
 | .c a n g=>match lk σ.r a with
   |some p=>match σ.fetch p n with
     |some us=>mkc g us
     |none=>none
   |none=>none
def St.rvs(σ:St):List RV->Option (List V)
 |[]=>some []
 |x::xs=>match σ.rv x,σ.rvs xs with
   |some v,some vs=>some (v::vs)
   |_,_=>none
def gp:List V->V
 |[v]=>v
 |vs=>.tup vs
def Res(rs:List RV)(post:V->Prop):Ex->St->Prop:=fun e σ=>(match e with
    | .exit _=>False
    | .goto _=>False
    |_=>True)/\match σ.rvs rs with
    |some vs=>match purs σ.h vs with
      |some us=>post (gp us)
      |none=>False
    |none=>False
def ent:Nat->List V->List (Nat×V)
 |_,[]=>[]
 |k,v::vs=>(k,v)::ent (k+1) vs
theorem xV:∀{vs:List V}{k t:Nat}{v:V},lk (ent k vs) t=some v->k<=t/\vs[t-k]?=some v
 |[],k,t,v,h=>by simp[ent,lk]at h
 |u::us,k,t,v,h=>by
   simp only[ent,lk]at h;split at h
   ·rename_i he;subst he;cases h;exact⟨zCb _,by simp⟩
   ·rename_i he
    obtain⟨h1,h2⟩:=xV h;refine⟨by omega,?_⟩
    rw[show t-k=(t-(k+1))+1 by omega]
    simpa using h2
variable{M0:Mem}{B:Bas}{w0:World}{κ:Kap}{M:Mem}{σ:St}{a:Act}{w:World}
def Mp(a:Act):ResultVar->Sem Value
 | .tmp t=>pure (a.tmps.getD t undef)
 | .cell x t=>do loadVar t (<-asAddr (a.tmps.getD x undef))
theorem iR{fn:Func}{rs:List RV}(hr:xm P fn.results.toList=some rs)(H:Rel N M0 B w0 κ M σ a w){vs:List V}(hv:σ.rvs rs=some vs):
 ∃cs:List Value,ae M (XX κ σ.h) vs cs/\(results fn a.tmps).run P w=.ok (if h:cs.length=1 then cs[0]else .tuple cs.toArray) w:=by
 have key:∀(l:List ResultVar)(rs:List RV)(vs:List V),xm P l=some rs->σ.rvs rs=some vs->
  ∃cs:List Value,ae M (XX κ σ.h) vs cs/\(l.mapM (Mp a)).run P w=.ok cs w:=by
  intro l
  induction l with
  |nil=>
    intro rs vs h1 h2;simp only[xm,zAb]at h1;subst h1;simp only[St.rvs,zAb]at h2;subst h2;exact⟨[],by simp[ae],by simp⟩
  |cons x l ih=>
    intro rs vs h1 h2;cases x with
    |tmp t=>
      simp only[xm,zAc]at h1;obtain⟨rs',h1,rfl⟩:=h1;simp only[St.rvs]at h2;split at h2
      ·rename_i v us g1 g2
       cases h2;obtain⟨cs,k1,k2⟩:=ih rs' us h1 g2;simp only[St.rv]at g1;split at g1
       ·rename_i u hu
        split at g1
        ·cases g1
         obtain⟨_,c,e1,e2⟩:=H.regs _ _ hu;refine⟨c::cs,by simp only[ae];exact⟨c,cs,rfl,e2,k1⟩,?_⟩
         have hF:(Mp a (.tmp t)).run P w=.ok c w:=by simp[Mp,e1]
         rw[zCg,Sem.run_bind,hF,Result.andThen_ok,Sem.run_bind,k2,Result.andThen_ok,Sem.run_pure]
        ·cases g1
       ·cases g1
      ·cases h2
    |cell t ty=>
      simp only[xm]at h1;split at h1
      ·rename_i n g xs hs hx
       cases h1;simp only[St.rvs]at h2;split at h2
       ·rename_i v us g1 g2
        cases h2;obtain⟨cs,k1,k2⟩:=ih _ us hx g2;simp only[St.rv]at g1;split at g1
        ·rename_i p hp
         split at g1
         ·rename_i vs' hf
          obtain⟨s1,s2,s3⟩:=nA hs;obtain⟨_,c,e1,e2⟩:=H.regs _ _ hp;obtain⟨b,o',ds,e,f1,f2,f3,f4⟩:=qP H e2 hf;subst e;rcases rW g1 f1 f2 with⟨rfl,hk⟩|⟨rfl,c,hk1,hk2⟩
          ·refine⟨.agg ds.toArray::cs,by simp only[ae];exact⟨_,cs,rfl,hk,k1⟩,?_⟩
           have:=run_loadCells_list (P:=P) w ⟨b,o',none⟩ ds f4;rw[f3]at this;have hF:(Mp a (.cell t ty)).run P w=.ok (.agg ds.toArray) w:=by simp[Mp,e1,asAddr,loadVar,f6 s2,aO s1,this]
           rw[zCg,Sem.run_bind,hF,Result.andThen_ok,Sem.run_bind,k2,Result.andThen_ok,Sem.run_pure]
          ·refine⟨c::cs,by simp only[ae];exact⟨c,cs,rfl,hk2,k1⟩,?_⟩
           have:=f4 0 c (by simp[hk1])
           rw[Addr.add_lit]at this;simp at this;have hF:(Mp a (.cell t ty)).run P w=.ok c w:=by simp[Mp,e1,asAddr,loadVar,f6 s2,this]
           rw[zCg,Sem.run_bind,hF,Result.andThen_ok,Sem.run_bind,k2,Result.andThen_ok,Sem.run_pure]
         ·cases g1
        ·cases g1
       ·cases h2
      ·cases h1
 obtain⟨cs,k1,k2⟩:=key _ _ _ hr hv;refine⟨cs,k1,?_⟩
 have e:results fn a.tmps=(do
  let vs <-fn.results.mapM (Mp a)
  pure (if h:vs.size=1 then vs[0]else .tuple vs)):=by
  unfold results;congr 2
 rw[e,Array.mapM_eq_mapM_toList];simp[Sem.run_bind,k2]
theorem vd{c:Code}{Q:Exit->Act->World->Prop}{a:Act}{w:World}(h:c.wpIn (FR none) 0 P Q a w):c.wp P Q a w:=wpIn_wide.1 h
theorem FnE.of_W{f:FuncId}{fn:Func}{c:Code}{us:List V}{r:V}{x:AC}{rs:List RV}(hm:P.follows .mixedOrders=true)(hf:P.funcs[f]?=some fn)(hb:fn.body=some c)
 (hn:(fn.name == "runtime.NumGoroutine")=false) (hc:LC P fn.ntmps [] c x) (hr:xm P fn.results.toList=some rs) (hs:us.length<=fn.ntmps)
 (hW:oks us->W (Cn P) x (Res rs (·=r)) ⟨ent 0 us,[]⟩):FnE P f us r where
 call:=fun args w=>by
  unfold callFunc;simp only[beq_eq_false_iff_ne,ne_eq]at hn;simp[Sem.run_bind,hf,hb,hn]
 does:=fun M w cs hM hus=>by
  have hl:cs.size=us.length:=by have:=aF hus;simpa using this
  refine calls_of_wp hf hb ?_
  have H:Rel fn.ntmps M ⟨w.heap.size,fun _=>False,[],#[],w.heap.size,noJ,[],fun _ _ _ _ _ _=>False⟩ w ⟨fun _=>undef,fun _ _=>undef,fun _ _=>False,fun _=>none⟩ M ⟨ent 0 us,[]⟩ { tmps:=cs++zAh (fn.ntmps-cs.size) undef,defers:=[] } w:=
   { dfr:=rfl,jst:=kM rfl,pin:=fun i hi=>by cases hi
     size:=by simp;omega
     regs:=fun t v ht=>by
      obtain⟨_,h2⟩:=xV ht;simp only[zCd]at h2;have hlt:t<us.length:=(zAf.1 h2).1;obtain⟨c,h3,h4⟩:=cw hus h2;refine⟨by omega,c,?_,az (fun _ _ h=>h) (fun _ _ h=>h.elim) _ _ h4⟩
      rw[zAj (by omega)]
      simpa using h3
     heap:=fun id ob h=>by simp at h
     inj:=fun i j oi oj g h=>by simp at h
     snd:=hM.snd
     sep:=fun p v _ id ob h=>by simp at h
     sub:=⟨fun _ _ h=>h,fun _ _ h=>(by cases h),fun _ _ h=>(by cases h),zCb _,hM.gl⟩
     new:=fun _ _ h=>.inl h
     base:=rfl
     blw:=Und.refl _ _ }
  refine vd (oG hm (kN rfl) (B:=⟨w.heap.size,fun _=>False,[],#[],w.heap.size,noJ,[],fun _ _ _ _ _ _=>False⟩) hc ?_ H (hW (dz hus)));intro e κ M1 σ a w1 hR H1;simp only[Res]at hR;obtain⟨he,hR⟩:=hR;split at hR
  ·rename_i vs hvs
   split at hR
   ·rename_i ws hws
    obtain⟨ds,k1,k2⟩:=iR hr H1 hvs;obtain⟨H2,hM1⟩:=H1.kill (am vs) (dT hws)
    have k3:ae (ext M1 w1 (hO κ (am vs))) NX ws ds:=by
     refine bC H1 hM1 (fun id hid g hg p hpb=>?_) k1 hws;unfold ext;rw[if_pos (cA.2 ⟨id,hid,by rw[hpb];exact hg⟩)]
    have fin:bodyPost P fn (fun e w'=>∃(c:Value)(M':Mem),e=.returned c/\rep M' NX r c/\Below w.heap.size w w'/\(∀p v,M' p=some v->w'.cell? p=some v)/\
     (∀p v,M p=some v->M' p=some v)/\∀p v,M' p=some v->M p=some v\/w.heap.size<=p.block) .normal a w1:=by
     refine⟨H1.dfr,_,k2,_,_,rfl,?_,⟨H1.blw.os,H1.blw.tape,H1.blw.output,H1.blw.size,fun k hk=>H1.blw.block k hk id⟩,H2.snd,H2.sub.sub,fun p v h=>(H2.new p v h).imp_right fun h=>h.elim id False.elim⟩;subst hR
     match ws,ds,k3 with
     |[],[],k3=>simp only[gp,rep];exact⟨#[],rfl,by simp[ae]⟩
     |[v],[d],k3=>
       simp only[ae]at k3;obtain⟨_,_,h1,h2,_⟩:=k3;cases h1;simpa[gp]using h2
     |v::v'::vs',d::d'::ds',k3=>
       have e:(if h:(d::d'::ds').length=1 then(d::d'::ds')[0]else .tuple (d::d'::ds').toArray)=.tuple (d::d'::ds').toArray:=dif_neg (by simp)
       rw[e];simp only[gp,rep];exact⟨_,rfl,by simpa using k3⟩
     |[],d::ds,k3=>simp[ae]at k3
     |v::vs,[],k3=>simp[ae]at k3
     |[v],d::d'::ds,k3=>simp[ae]at k3
     |v::v'::vs,[d],k3=>
       simp only[ae]at k3;obtain⟨c,cs',h1,_,c2,cs2,h2,_⟩:=k3;cases h1;cases h2
    cases e with
    |norm=>exact fin
    |ret=>exact fin
    |exit id=>exact he.elim
    |goto l=>exact he.elim
   ·exact hR.elim
  ·exact hR.elim
def Lw(rs:List RV)(r:V):Ex->St->Prop:=fun e σ=>(match e with
    | .exit _=>False
    | .goto _=>False
    |_=>True)/\match σ.rvs rs with
    |some vs=>C0 σ.h vs=true/\(match purs σ.h vs with
      |some us=>gp us=r
      |none=>False)
    |none=>False
theorem LM{M:Mem}{X:V->Value->Prop}:∀{ws:List V}{ds:List Value},ae M X ws ds->rep M X (gp ws) (if h:ds.length=1 then ds[0]else .tuple ds.toArray)
 |[],[],k3=>by simp only[gp,rep];exact⟨#[],rfl,by simp[ae]⟩
 |[v],[d],k3=>by
   simp only[ae]at k3;obtain⟨_,_,h1,h2,_⟩:=k3;cases h1;simpa[gp]using h2
 |v::v'::vs',d::d'::ds',k3=>by
   have e:(if h:(d::d'::ds').length=1 then(d::d'::ds')[0]else .tuple (d::d'::ds').toArray)=.tuple (d::d'::ds').toArray:=dif_neg (by simp)
   rw[e];simp only[gp,rep];exact⟨_,rfl,by simpa using k3⟩
 |[],d::ds,k3=>by simp[ae]at k3
 |v::vs,[],k3=>by simp[ae]at k3
 |[v],d::d'::ds,k3=>by simp[ae]at k3
 |v::v'::vs,[d],k3=>by
   simp only[ae]at k3;obtain⟨c,cs',h1,_,c2,cs2,h2,_⟩:=k3;cases h1;cases h2
theorem FnN.of_W{f:FuncId}{fn:Func}{c:Code}{us:List V}{r:V}{x:AC}{rs:List RV}(hm:P.follows .mixedOrders=true)(hf:P.funcs[f]?=some fn)(hb:fn.body=some c)
 (hn:(fn.name == "runtime.NumGoroutine")=false) (hc:LC P fn.ntmps [] c x) (hr:xm P fn.results.toList=some rs) (hs:us.length<=fn.ntmps)
 (hW:oks us->W (Cn P) x (Lw rs r) ⟨ent 0 us,[]⟩):FnN P f us r:=by
 intro M w cs hM hus o a Nx Q hN
 have hcall:(callFunc f cs).run P w=.ok (.enter f cs) w:=by
  unfold callFunc;simp only[beq_eq_false_iff_ne,ne_eq]at hn;simp[Sem.run_bind,hf,hb,hn]
 have hl:cs.size=us.length:=by have:=aF hus;simpa using this
 rw[hcall,Oper.upon_enter]
 have key:Calls P f cs w fun e w'=>∃(c:Value)(M':Mem),e=.returned c/\rep (uq w M') NX r c/\Below w.heap.size w w'/\∀p v,M' p=some v->w'.cell? p=some v:=by
  refine calls_of_wp hf hb ?_
  have H:Rel fn.ntmps M ⟨w.heap.size,fun _=>False,[],#[],w.heap.size,noJ,[],fun _ _ _ _ _ _=>False⟩ w ⟨fun _=>undef,fun _ _=>undef,fun _ _=>False,fun _=>none⟩ M ⟨ent 0 us,[]⟩ { tmps:=cs++zAh (fn.ntmps-cs.size) undef,defers:=[] } w:=
   { dfr:=rfl,jst:=kM rfl,pin:=fun i hi=>by cases hi
     size:=by simp;omega
     regs:=fun t v ht=>by
      obtain⟨_,h2⟩:=xV ht;simp only[zCd]at h2;have hlt:t<us.length:=(zAf.1 h2).1;obtain⟨c,h3,h4⟩:=cw hus h2;refine⟨by omega,c,?_,az (fun _ _ h=>h) (fun _ _ h=>h.elim) _ _ h4⟩
      rw[zAj (by omega)]
      simpa using h3
     heap:=fun id ob h=>by simp at h
     inj:=fun i j oi oj g h=>by simp at h
     snd:=hM.snd
     sep:=fun p v _ id ob h=>by simp at h
     sub:=⟨fun _ _ h=>h,fun _ _ h=>(by cases h),fun _ _ h=>(by cases h),zCb _,hM.gl⟩
     new:=fun _ _ h=>.inl h
     base:=rfl
     blw:=Und.refl _ _ }
  refine vd (oG hm (kN rfl) (B:=⟨w.heap.size,fun _=>False,[],#[],w.heap.size,noJ,[],fun _ _ _ _ _ _=>False⟩) hc ?_ H (hW (dz hus)));intro e κ M1 σ a w1 hR H1;simp only[Lw]at hR;obtain⟨he,hR⟩:=hR;split at hR
  ·rename_i vs hvs
   obtain⟨hfr,hR⟩:=hR;split at hR
   ·rename_i ws hws
    obtain⟨ds,k1,k2⟩:=iR hr H1 hvs;obtain⟨H2,hM1⟩:=H1.kill (am vs) (dT hws)
    have k3:ae (uq w (ext M1 w1 (hO κ (am vs)))) NX ws ds:=by
     refine wk H1 (fun p v hp=>by unfold uq;rw[if_pos (H1.sub.fmN p v hp)];exact hM1 p v (H1.sub.fmS p v hp)) (fun id hid g hg p hpb=>?_) hfr k1 hws
     obtain⟨ob,hob⟩:=dT hws id hid
     have hgw:w.heap.size<=g:=by
      rcases(H1.blk_lt hob hg).1 with h|h
      ·exact h
      ·exact h.elim
     unfold uq;rw[if_pos (by omega)]
     unfold ext;rw[if_pos (cA.2 ⟨id,hid,by rw[hpb];exact hg⟩)]
    have fin:bodyPost P fn (fun e w'=>∃(c:Value)(M':Mem),e=.returned c/\rep (uq w M') NX r c/\Below w.heap.size w w'/\∀p v,M' p=some v->w'.cell? p=some v) .normal a w1:=by
     refine⟨H1.dfr,_,k2,_,_,rfl,?_,⟨H1.blw.os,H1.blw.tape,H1.blw.output,H1.blw.size,fun k hk=>H1.blw.block k hk id⟩,H2.snd⟩;subst hR;exact LM k3
    cases e with
    |norm=>exact fin
    |ret=>exact fin
    |exit id=>exact he.elim
    |goto l=>exact he.elim
   ·exact hR.elim
  ·exact hR.elim
 refine key.mono ?_;rintro e w' ⟨c,M',rfl,h1,h2,h3⟩;exact hN c M' w' h1 h2 h3
mutual
def jk:V->V
 | .seq sz l=>if l.isEmpty=true then .seq sz l else .junk
 | .strct cs=>.strct (jks cs)
 | .tup cs=>.tup (jks cs)
 | .sptr _ _=>.junk
 |v=>v
def jks:List V->List V
 |[]=>[]
 |v::vs=>jk v::jks vs
end
mutual
theorem WR{M:Mem}{X:V->Value->Prop}:∀{v:V}{c:Value},rep M X v c->rep M X (jk v) c
 | .seq sz l,c,h=>by
   simp only[jk];split
   ·exact h
   ·simp only[rep]at h⊢
    obtain⟨a,cap,rfl,_⟩:=h;rfl
 | .strct cs,c,h=>by
   simp only[rep,jk]at h⊢;obtain⟨arr,h1,h2,h3⟩:=h;exact⟨arr,h1,Jv h2,h3⟩
 | .tup cs,c,h=>by
   simp only[rep,jk]at h⊢;obtain⟨arr,h1,h2⟩:=h;exact⟨arr,h1,Jv h2⟩
 | .sptr _ _,c,h=>by
   simp only[rep,jk]at h⊢;obtain⟨b,o,y,rfl,_⟩:=h;rfl
 | .int _ _,_,h=>h
 | .bool _,_,h=>h
 | .str _,_,h=>h
 | .nil _,_,h=>h
 | .ref _ _,_,h=>h
 | .ptr _ _,_,h=>h
 | .eptr _ _ _ _,_,h=>h
 | .mref _ _ _,_,h=>h
 | .fseq _ _,_,h=>h
 | .mptr _ _ _ _ _,_,h=>h
 | .q _ _ _ _ _,_,h=>h
 | .nilptr,_,h=>h
 | .fn _ _ _,_,h=>h
 | .nilfn,_,h=>h
 | .nilmp,_,h=>h
 | .iface _ _,_,h=>h
 | .niliface,_,h=>h
 | .junk,_,h=>h
theorem Jv{M:Mem}{X:V->Value->Prop}:∀{vs:List V}{cs:List Value},ae M X vs cs->ae M X (jks vs) cs
 |[],_,h=>h
 |v::vs,cs,h=>by
   simp only[ae,jks]at h⊢;obtain⟨c,cs',h1,h2,h3⟩:=h;exact⟨c,cs',h1,WR h2,Jv h3⟩
end
theorem Fn.weak{f:FuncId}{us:List V}{r r':V}(h:Fn P f us r)(hr:∀M c,rep M NX r c->rep M NX r' c):Fn P f us r':=
 fun M w cs hM hus o a Nx Q hN=>h M w cs hM hus o a Nx Q fun c M' w' h1=>hN c M' w' (hr M' c h1)
theorem Fn.jk{f:FuncId}{us:List V}{r:V}(h:Fn P f us r):Fn P f us (jk r):=h.weak fun _ _=>WR
def aj(P:Program)(fn:Func)(K:List (List Nat))(n:Nat):Option (AC×List RV):=
 match fn.body with
 |some c=>match bX P fn.ntmps [] [] c K,xm P fn.results.toList with
   |some (x,[]),some rs=>if(fn.name == "runtime.NumGoroutine")=false/\n<=fn.ntmps then some (x,rs)else none
   |_,_=>none
 |none=>none
theorem FnE.of_image{f:FuncId}{fn:Func}{us:List V}{r:V}{x:AC}{K:List (List Nat)}{rs:List RV}{n:Nat}(hm:P.follows .mixedOrders=true)(hf:P.funcs[f]?=some fn)
 (hi:aj P fn K n=some (x,rs)) (hn:us.length=n) (hW:oks us->W (Cn P) x (Res rs (·=r)) ⟨ent 0 us,[]⟩):FnE P f us r:=by
 unfold aj at hi;split at hi
 ·split at hi
  ·split at hi
   ·rename_i hc
    cases hi;exact FnE.of_W hm hf ‹_› hc.1 (dY ‹_›) ‹_› (by rw[hn];exact hc.2) hW
   ·cases hi
  ·cases hi
 ·cases hi
theorem Fn.of_image{f:FuncId}{fn:Func}{us:List V}{r:V}{x:AC}{K:List (List Nat)}{rs:List RV}{n:Nat}(hm:P.follows .mixedOrders=true)(hf:P.funcs[f]?=some fn)
 (hi:aj P fn K n=some (x,rs)) (hn:us.length=n) (hW:oks us->W (Cn P) x (Res rs (·=r)) ⟨ent 0 us,[]⟩):Fn P f us r:=(FnE.of_image hm hf hi hn hW).fn
theorem FnN.of_image{f:FuncId}{fn:Func}{us:List V}{r:V}{x:AC}{K:List (List Nat)}{rs:List RV}{n:Nat}(hm:P.follows .mixedOrders=true)(hf:P.funcs[f]?=some fn)
 (hi:aj P fn K n=some (x,rs)) (hn:us.length=n) (hW:oks us->W (Cn P) x (Lw rs r) ⟨ent 0 us,[]⟩):FnN P f us r:=by
 unfold aj at hi;split at hi
 ·split at hi
  ·split at hi
   ·rename_i hc
    cases hi;exact FnN.of_W hm hf ‹_› hc.1 (dY ‹_›) ‹_› (by rw[hn];exact hc.2) hW
   ·cases hi
  ·cases hi
 ·cases hi
def vA:List (Nat×V)->List V
 |[]=>[]
 |(_,v)::r=>v::vA r
def Ho(m:List Nat)(r:List (Nat×V))(us:List V):List Nat->Prop
 |[]=>True
 |i::is=>(match lk r i,us[i]? with
   |some v,some u=>ren m v=u
   |_,_=>False)/\Ho m r us is
def Ml(σ:St)(ps:List Nat)(us:List V)(r:V)(H':List (Option Ob))(vs:List V)(m:List Nat):Prop:=
 Ho m σ.r us ps/\gp (ew m vs)=r/\gD σ.h m m=H'
def Lx(rs:List RV)(ps:List Nat)(us:List V)(r:V)(H':List (Option Ob)):Ex->St->Prop:=fun e σ=>(match e with
    | .exit _=>False
    | .goto _=>False
    |_=>True)/\match σ.rvs rs with
    |some vs=>Ml σ ps us r H' vs (dm σ.h (vA (pk σ.r ps)) vs).2
    |none=>False
theorem Hn{m:List Nat}{r:List (Nat×V)}{us:List V}:∀{is:List Nat},Ho m r us is->∀i,i∈is->∃v u,lk r i=some v/\us[i]?=some u/\ren m v=u
 |[],_,i,hi=>by cases hi
 |j::is,h,i,hi=>by
   simp only[Ho]at h;rcases zCi.1 hi with rfl|hi
   ·have h1:=h.1
    split at h1
    ·exact⟨_,_,by assumption,by assumption,h1⟩
    ·exact h1.elim
   ·exact Hn h.2 i hi
def aeN(rs:List RV)(ps:List Nat)(us:List V)(Z:V->List (Option Ob)->Prop):Ex->St->Prop:=fun e σ=>∃r H',Z r H'/\Lx rs ps us r H' e σ
theorem X5{rs:List RV}{ps:List Nat}{us:List V}{r:V}{H':List (Option Ob)}:aeN rs ps us (fun r1 H1=>r1=r/\H1=H')=Lx rs ps us r H':=by
 funext e σ;exact propext ⟨fun⟨_,_,⟨e1,e2⟩,h⟩=>by subst e1 e2;exact h,fun h=>⟨_,_,⟨rfl,rfl⟩,h⟩⟩
theorem FnX.of_W{f:FuncId}{fn:Func}{c:Code}{ps:List Nat}{us:List V}{H:List (Option Ob)}{Z:V->List (Option Ob)->Prop}{x:AC}{rs:List RV}(hm:P.follows .mixedOrders=true)(hf:P.funcs[f]?=some fn)(hb:fn.body=some c)
 (hn:(fn.name == "runtime.NumGoroutine")=false) (hc:LC P fn.ntmps ps c x) (hr:xm P fn.results.toList=some rs) (hs:us.length<=fn.ntmps) (hps:∀i∈ps,i<us.length)
 (hW:oks us->okH H->W (Cn P) x (aeN rs ps us Z) ⟨ent 0 us,H⟩):FnX P f ps us H Z:=by
 intro M w κ cs J hJC hp hus o a Nx Q hN
 have hcall:(callFunc f cs).run P w=.ok (.enter f cs) w:=by
  unfold callFunc;simp only[beq_eq_false_iff_ne,ne_eq]at hn;simp[Sem.run_bind,hf,hb,hn]
 have hl:cs.size=us.length:=by have:=aF hus;simpa using this
 rw[hcall,Oper.upon_enter]
 have key:Calls P f cs w fun e w'=>∃(r:V)(H':List (Option Ob))(c:Value)(M':Mem)(κ':Kap),Z r H'/\e=.returned c/\rep M' (XX κ' H') r c/\Und (cB κ H w ps cs J) w w'/\Heap κ' M' (cB κ H w ps cs J) w' H'/\
  (∀p v,M p=some v->M' p=some v)/\(∀p v,M' p=some v->M p=some v\/(cB κ H w ps cs J).own p.block)/\
  (∀i,i∈ps->∀u d,us[i]?=some u->cs[i]?=some d->rep M' (XX κ' H') u d):=by
  refine calls_of_wp hf hb ?_
  have H0:Rel fn.ntmps M (cB κ H w ps cs J) w κ M ⟨ent 0 us,H⟩ { tmps:=cs++zAh (fn.ntmps-cs.size) undef,defers:=[] } w:=
   { dfr:=rfl
     jst:=hp.jst
     pin:=fun i hi=>by
      have hi:i∈ps:=hi;have:=hps i hi
      show(cs++zAh (fn.ntmps-cs.size) undef)[i]?=cs[i]?
      rw[zAj (by omega)]
     size:=by simp;omega
     regs:=fun t v ht=>by
      obtain⟨_,h2⟩:=xV ht;simp only[zCd]at h2;have hlt:t<us.length:=(zAf.1 h2).1;obtain⟨c,h3,h4⟩:=cw hus h2;refine⟨by omega,c,?_,h4⟩
      rw[zAj (by omega)]
      simpa using h3
     heap:=hp.heap
     inj:=hp.inj
     snd:=hp.snd
     sep:=hp.sep
     sub:=⟨fun _ _ h=>h,hp.fmS,fun _ _ _=>zCa _,zCa _,hp.gl⟩
     new:=fun _ _ h=>.inl h
     base:=rfl
     blw:=Und.refl _ _ }
  refine vd (oG hm hJC (B:=cB κ H w ps cs J) hc ?_ H0 (hW (dz hus) (Sf hp.heap)));intro e κ1 M1 σ a w1 hR H1;obtain⟨r,H',hZ,hR⟩:=hR;simp only[Lx]at hR;obtain⟨he,hR⟩:=hR;split at hR
  ·rename_i vs hvs
   obtain⟨ds,k1,k2⟩:=iR hr H1 hvs;obtain⟨hmn,_,_,hpf⟩:=HG (h:=σ.h) (pvs:=vA (pk σ.r ps)) (vs:=vs);generalize(dm σ.h (vA (pk σ.r ps)) vs).2=m at *;obtain⟨hR1,hR2,hR3⟩:=hR;have H2:=H1.ren hmn hpf [] (fun t v h=>by simp[lk]at h)
   have k3:=iU (yE (M:=M1) (κ:=κ1) (h:=σ.h) hmn) k1;simp only[DW]at H2;rw[hR3]at H2 k3
   have hpin:∀i,i∈ps->∀u d,us[i]?=some u->cs[i]?=some d->rep M1 (XX (κ1.ren m) H') u d:=by
    intro i hi u d hu hd;obtain⟨v,u',e1,e2,e3⟩:=Hn hR1 i hi;rw[hu]at e2;cases e2;obtain⟨_,c,g2,g3⟩:=H1.regs i v e1;rw[H1.pin i hi]at g2;have g2:cs[i]?=some c:=g2;rw[hd]at g2;cases g2;rw[<-e3,<-hR3];exact AQ (yE hmn) g3
   generalize hk':κ1.ren m=κ' at *
   have fin:bodyPost P fn (fun e w'=>∃(r:V)(H':List (Option Ob))(c:Value)(M':Mem)(κ':Kap),Z r H'/\e=.returned c/\rep M' (XX κ' H') r c/\Und (cB κ H w ps cs J) w w'/\Heap κ' M' (cB κ H w ps cs J) w' H'/\
    (∀p v,M p=some v->M' p=some v)/\(∀p v,M' p=some v->M p=some v\/(cB κ H w ps cs J).own p.block)/\
    (∀i,i∈ps->∀u d,us[i]?=some u->cs[i]?=some d->rep M' (XX κ' H') u d)) .normal a w1:=by
    refine⟨H1.dfr,_,k2,r,H',_,M1,κ',hZ,rfl,?_,H1.blw,⟨H2.heap,H2.inj,H2.snd,H2.sep,H2.sub.fmS,H2.sub.gl.mono H2.sub.sub,H2.jst⟩,H1.sub.sub,H1.new,hpin⟩;subst hR2;generalize ew m vs=ws at *
    match ws,ds,k3 with
    |[],[],k3=>simp only[gp,rep];exact⟨#[],rfl,by simp[ae]⟩
    |[v],[d],k3=>
      simp only[ae]at k3;obtain⟨_,_,h1,h2,_⟩:=k3;cases h1;simpa[gp]using h2
    |v::v'::vs',d::d'::ds',k3=>
      have e:(if h:(d::d'::ds').length=1 then(d::d'::ds')[0]else .tuple (d::d'::ds').toArray)=.tuple (d::d'::ds').toArray:=dif_neg (by simp)
      rw[e];simp only[gp,rep];exact⟨_,rfl,by simpa using k3⟩
    |[],d::ds,k3=>simp[ae]at k3
    |v::vs,[],k3=>simp[ae]at k3
    |[v],d::d'::ds,k3=>simp[ae]at k3
    |v::v'::vs,[d],k3=>
      simp only[ae]at k3;obtain⟨c,cs',h1,_,c2,cs2,h2,_⟩:=k3;cases h1;cases h2
   cases e with
   |norm=>exact fin
   |ret=>exact fin
   |exit id=>exact he.elim
   |goto l=>exact he.elim
  ·exact hR.elim
 refine key.mono ?_;rintro e w' ⟨r,H',c,M',κ',hZ,rfl,h1,h2,h3,h4,h5,h6⟩;exact hN r H' c M' w' κ' hZ h1 h2 h3 h4 h5 h6
def au(P:Program)(fn:Func)(ps E:List Nat)(K:List (List Nat))(n:Nat):Option (AC×List RV):=
 match fn.body with
 |some c=>match bX P fn.ntmps ps E c K,xm P fn.results.toList with
   |some (x,[]),some rs=>if(fn.name == "runtime.NumGoroutine")=false/\n<=fn.ntmps/\ps.all (fun i=>decide (i<n))=true then some (x,rs)else none
   |_,_=>none
 |none=>none
theorem FnX.of_image{f:FuncId}{fn:Func}{ps E:List Nat}{us:List V}{H:List (Option Ob)}{Z:V->List (Option Ob)->Prop}{x:AC}{K:List (List Nat)}{rs:List RV}{n:Nat}(hm:P.follows .mixedOrders=true)(hf:P.funcs[f]?=some fn)
 (hi:au P fn ps E K n=some (x,rs)) (hn:us.length=n) (hW:oks us->okH H->W (Cn P) x (aeN rs ps us Z) ⟨ent 0 us,H⟩):FnX P f ps us H Z:=by
 unfold au at hi;split at hi
 ·split at hi
  ·split at hi
   ·rename_i hc
    cases hi;exact FnX.of_W hm hf ‹_› hc.1 (dY ‹_›) ‹_› (by rw[hn];exact hc.2.1) (fun i hi=>by have:=zAe.1 hc.2.2 i hi;simp at this;omega) hW
   ·cases hi
  ·cases hi
 ·cases hi
theorem FnH.of_image{f:FuncId}{fn:Func}{ps E:List Nat}{us:List V}{H H':List (Option Ob)}{r:V}{x:AC}{K:List (List Nat)}{rs:List RV}{n:Nat}(hm:P.follows .mixedOrders=true)(hf:P.funcs[f]?=some fn)
 (hi:au P fn ps E K n=some (x,rs)) (hn:us.length=n) (hW:oks us->okH H->W (Cn P) x (Lx rs ps us r H') ⟨ent 0 us,H⟩):FnH P f ps us H r H':=
 FnX.h (FnX.of_image hm hf hi hn fun h1 h2=>by rw[X5];exact hW h1 h2)
theorem Fn.of_imageE{f:FuncId}{fn:Func}{E:List Nat}{us:List V}{r:V}{x:AC}{K:List (List Nat)}{rs:List RV}{n:Nat}(hm:P.follows .mixedOrders=true)(hf:P.funcs[f]?=some fn)
 (hi:au P fn [] E K n=some (x,rs)) (hn:us.length=n) (hW:oks us->W (Cn P) x (Res rs (·=r)) ⟨ent 0 us,[]⟩):Fn P f us r:=by
 unfold au at hi;split at hi
 ·split at hi
  ·split at hi
   ·rename_i hc
    cases hi;exact(FnE.of_W hm hf ‹_› hc.1 (dY ‹_›) ‹_› (by rw[hn];exact hc.2.1) hW).fn
   ·cases hi
  ·cases hi
 ·cases hi
end
end Go.Abs
end
section
namespace Go.Abs
def oM{α:Type}(x:Option α)(k:α->Prop):Prop:=match x with
 |some v=>k v
 |none=>False
def oN{α:Type}(x:Option α)(k:α->Prop)(e:Prop):Prop:=match x with
 |some v=>k v
 |none=>e
theorem ZX{α:Type}{v:α}{k:α->Prop}{e:Prop}:oN (some v) k e=k v:=propext zAa
theorem ZY{α:Type}{k:α->Prop}{e:Prop}:oN none k e=e:=propext zAa
def BrK(t:Bool)(A B:St->Prop)(σ:St):Prop:=Br t (A σ) (B σ)
def rqK(p:Prop)(K:St->Prop)(σ:St):Prop:=p/\K σ
def cM(x:Option V)(A B:St->Prop)(σ:St):Prop:=match x with
 |some (.bool t)=>Br t (A σ) (B σ)
 |_=>False
def gM(x:Option V)(b:Bool)(A B:St->Prop)(σ:St):Prop:=match x with
 |some (.bool y)=>if b=true then Br y (A σ) (B σ)else Br y (B σ) (A σ)
 |some (.tup [])=>B σ
 |_=>False
def aaD(Q:Ex->St->Prop)(ks:List Nat)(σ:St):Prop:=Q .norm { σ with r:=pk σ.r ks }
def skK(d:Option Nat)(K:St->Prop)(σ:St):Prop:=K (σ.put d (.tup []))
def fx(σ:St)(d:Option Nat)(K:St->Prop)(v:V):Prop:=K (σ.put d v)
theorem BrK.mk{t:Bool}{A B:St->Prop}{σ:St}(h:t=true->A σ)(h':t=false->B σ):BrK t A B σ:=⟨h,h'⟩
theorem Pf{A B:St->Prop}{σ:St}:BrK true A B σ=A σ:=by simp[BrK,Br]
theorem In{A B:St->Prop}{σ:St}:BrK false A B σ=B σ:=by simp[BrK,Br]
theorem BrKd.mk{p:Prop}[Decidable p]{A B:St->Prop}{σ:St}(h:p->A σ)(h':¬p->B σ):BrK (decide p) A B σ:=⟨fun e=>h (of_decide_eq_true e),fun e=>h' (of_decide_eq_false e)⟩
theorem BrK_t{p:Prop}[Decidable p]{A B:St->Prop}{σ:St}(h:p):BrK (decide p) A B σ=A σ:=by rw[decide_eq_true h];exact Pf
theorem BrK_f{p:Prop}[Decidable p]{A B:St->Prop}{σ:St}(h:¬p):BrK (decide p) A B σ=B σ:=by rw[decide_eq_false h];exact In
theorem BrK_n{b:Bool}{A B:St->Prop}{σ:St}:BrK (!b) A B σ=BrK b B A σ:=by cases b<;>simp[BrK,Br]
theorem rqK_t{p:Prop}{K:St->Prop}{σ:St}(h:p):rqK p K σ=K σ:=by simp[rqK,h]
theorem V0{K:St->Prop}{σ:St}:rqK True K σ=K σ:=by simp[rqK]
theorem ZZ{α:Type}{v:α}{k:α->Prop}:oM (some v) k=k v:=propext zAa
theorem Z0{α:Type}{k:α->Prop}:oM none k=False:=propext zAa
theorem aaJ{t:Bool}{A B:St->Prop}{σ:St}:cM (some (.bool t)) A B σ=BrK t A B σ:=propext zAa
theorem aan{y:Bool}{A B:St->Prop}{σ:St}:gM (some (.bool y)) true A B σ=BrK y A B σ:=propext zAa
theorem W7{y:Bool}{A B:St->Prop}{σ:St}:gM (some (.bool y)) false A B σ=BrK y B A σ:=propext zAa
theorem adz{b:Bool}{A B:St->Prop}{σ:St}:gM (some (.tup [])) b A B σ=B σ:=by cases b<;>rfl
section
variable{Φ:Ctr}{Q:Ex->St->Prop}{σ:St}{K:St->Prop}{d:Option Nat}
theorem Xx{ks:List Nat}:aaD Q ks σ=Q .norm { σ with r:=pk σ.r ks }:=propext zAa
theorem Zz:skK d K σ=K (σ.put d (.tup [])):=propext zAa
theorem Wj{v:V}:fx σ d K v=K (σ.put d v):=propext zAa
theorem aeI{ops ks}:W Φ (.reg ops ks) Q σ=xv Φ ops (aaD Q ks) σ:=propext zAa
theorem aaZ{ops ks}:W Φ (.regD ops ks) Q σ=vf Φ ops (aaD Q ks) σ:=propext zAa
theorem aaY{alts ks}:W Φ (.regE alts ks) Q σ=Pl Φ alts (aaD Q ks) σ:=propext zAa
theorem aa1{c:AO}{a b:AC}:W Φ (.cond c a b) Q σ=cM (σ.ev c) (W Φ a Q) (W Φ b Q) σ:=propext zAa
theorem aeH{a b:AC}:W Φ (.seq a b) Q σ=W Φ a (Ex.then (W Φ b Q) Q) σ:=propext zAa
theorem Vi:xv Φ [] K σ=K σ:=propext zAa
theorem SD{o:AOp}{os:List AOp}:xv Φ (o::os) K σ=wop Φ o (xv Φ os K) σ:=propext zAa
theorem wop_n{d:Option Nat}{a:Act'}:wop Φ ⟨d,a,none⟩ K σ=af Φ d a K σ:=propext zAa
theorem Vk{d:Option Nat}{a:Act'}{t:Nat}{b:Bool}:wop Φ ⟨d,a,some (t,b)⟩ K σ=gM (lk σ.r t) b (af Φ d a K) (skK d K) σ:=by
 simp only[wop,gM];split<;>rename_i heq<;>simp only[heq]<;>rfl
theorem SE:vf Φ [] K σ=K σ:=propext zAa
theorem Pi{o:AOp}{os:List AOp}:vf Φ (o::os) K σ=aM Φ o (vf Φ os K) σ:=propext zAa
theorem ab4{d:Option Nat}{a:Act'}:aM Φ ⟨d,a,none⟩ K σ=ah Φ d a K σ:=propext zAa
theorem Pj{d:Option Nat}{a:Act'}{t:Nat}{b:Bool}:aM Φ ⟨d,a,some (t,b)⟩ K σ=gM (lk σ.r t) b (ah Φ d a K) (skK d K) σ:=by
 simp only[aM,gM];split<;>rename_i heq<;>simp only[heq]<;>rfl
theorem SA:iP Φ .nil K σ=K σ:=propext zAa
theorem UO{x:AOp}{t:OT}:iP Φ (.op x t) K σ=aM Φ x (iP Φ t K) σ:=propext zAa
def xw(Φ:Ctr)(a b:OT)(K:St->Prop)(σ:St):Prop:=iP Φ a K σ/\iP Φ b K σ
theorem Ph{a b:OT}:iP Φ (.both a b) K σ=xw Φ a b K σ:=propext zAa
theorem xw.mk{a b:OT}(h:iP Φ a K σ)(h':iP Φ b K σ):xw Φ a b K σ:=⟨h,h'⟩
def Tm(Q:Ex->St->Prop)(ks:List Nat)(σ:St):Prop:=Q .norm (σ.nrm ks)
theorem Wu{ks:List Nat}:Tm Q ks σ=Q .norm (σ.nrm ks):=propext zAa
theorem aaX{t ks}:W Φ (.regF t ks) Q σ=iP Φ t (Tm Q ks) σ:=propext zAa
theorem Vq:Pl Φ [] K σ=True:=propext zAa
def wallK(Φ:Ctr)(o:List AOp)(os:List (List AOp))(K:St->Prop)(σ:St):Prop:=xv Φ o K σ/\Pl Φ os K σ
theorem SH{o:List AOp}{os:List (List AOp)}:Pl Φ (o::os) K σ=wallK Φ o os K σ:=propext zAa
def abf:Act'->Bool
 | .s2b _=>false
 | .lit _ _ _=>false
 | .ltr _ _ _=>false
 | .alc _=>false
 | .box _=>false
 | .st _ _ _=>false
 | .app _ _ _ _ _=>false
 | .mks _ _ _ _ _=>false
 | .mk0 _ _ _ _=>false
 | .mkm _ _ _ _ _=>false
 | .call _ _=>false
 | .callv _ _=>false
 | .callH _ _=>false
 | .mkp _=>false
 | .mup _ _ _ _=>false
 | .inv _ _ _=>false
 | .ivp _ _ _=>false
 | .trc _ _ _=>false
 | .alq _=>false
 | .bxq _=>false
 | .cvb _=>false
 | .apz _ _ _ _=>false
 | .sbq _=>false
 | .aps _ _ _=>false
 | .apb _ _ _=>false
 | .alb _ _ _=>false
 | .usd _=>false
 | .ust _ _ _=>false
 | .del _ _ _=>false
 | .mkq _ _ _ _ _=>false
 | .yld _ _=>false
 | .rgs _=>false
 | .nxs _=>false
 |_=>true
theorem de{a:Act'}(h:abf a=true):af Φ d a K σ=oM (σ.val a) (fx σ d K):=by
 cases a<;>first|(exfalso;revert h;simp only[abf];decide)|skip
 all_goals
  simp only[af,oM];split<;>rename_i heq<;>simp only[heq]<;>rfl
theorem a_mov{x}:af Φ d (.mov x) K σ=oM (σ.val (.mov x)) (fx σ d K):=de rfl
theorem ad9{x}:ah Φ d (.mov x) K σ=af Φ d (.mov x) K σ:=propext zAa
theorem adR{x y z}:af Φ d (.pick x y z) K σ=oM (σ.val (.pick x y z)) (fx σ d K):=de rfl
theorem aaT{x y z}:ah Φ d (.pick x y z) K σ=af Φ d (.pick x y z) K σ:=propext zAa
theorem a_fld{x y z w}:af Φ d (.fld x y z w) K σ=oM (σ.val (.fld x y z w)) (fx σ d K):=de rfl
theorem aen{x y z w}:ah Φ d (.fld x y z w) K σ=af Φ d (.fld x y z w) K σ:=propext zAa
theorem a_fa{x y}:af Φ d (.fa x y) K σ=oM (σ.val (.fa x y)) (fx σ d K):=de rfl
theorem aD_fa{x y}:ah Φ d (.fa x y) K σ=af Φ d (.fa x y) K σ:=propext zAa
theorem a_ia{x y z}:af Φ d (.ia x y z) K σ=oM (σ.val (.ia x y z)) (fx σ d K):=de rfl
theorem aD_ia{x y z}:ah Φ d (.ia x y z) K σ=af Φ d (.ia x y z) K σ:=propext zAa
theorem a_iaa{x y z w}:af Φ d (.iaa x y z w) K σ=oM (σ.val (.iaa x y z w)) (fx σ d K):=de rfl
theorem aem{x y z w}:ah Φ d (.iaa x y z w) K σ=af Φ d (.iaa x y z w) K σ:=propext zAa
theorem a_ld{x y z}:af Φ d (.ld x y z) K σ=oM (σ.val (.ld x y z)) (fx σ d K):=de rfl
theorem aD_ld{x y z}:ah Φ d (.ld x y z) K σ=af Φ d (.ld x y z) K σ:=propext zAa
theorem a_ixs{x y}:af Φ d (.ixs x y) K σ=oM (σ.val (.ixs x y)) (fx σ d K):=de rfl
theorem aej{x y}:ah Φ d (.ixs x y) K σ=af Φ d (.ixs x y) K σ:=propext zAa
theorem a_ixa{x y z w u}:af Φ d (.ixa x y z w u) K σ=oM (σ.val (.ixa x y z w u)) (fx σ d K):=de rfl
theorem aek{x y z w u}:ah Φ d (.ixa x y z w u) K σ=af Φ d (.ixa x y z w u) K σ:=propext zAa
theorem a_bin{x y z}:af Φ d (.bin x y z) K σ=oM (σ.val (.bin x y z)) (fx σ d K):=de rfl
theorem aew{x y z}:ah Φ d (.bin x y z) K σ=af Φ d (.bin x y z) K σ:=propext zAa
theorem a_un{x y}:af Φ d (.un x y) K σ=oM (σ.val (.un x y)) (fx σ d K):=de rfl
theorem aD_un{x y}:ah Φ d (.un x y) K σ=af Φ d (.un x y) K σ:=propext zAa
theorem a_cii{x y}:af Φ d (.cii x y) K σ=oM (σ.val (.cii x y)) (fx σ d K):=de rfl
theorem aes{x y}:ah Φ d (.cii x y) K σ=af Φ d (.cii x y) K σ:=propext zAa
theorem a_r2s{x}:af Φ d (.r2s x) K σ=oM (σ.val (.r2s x)) (fx σ d K):=de rfl
theorem ad4{x}:ah Φ d (.r2s x) K σ=af Φ d (.r2s x) K σ:=propext zAa
theorem a_b2s{x}:af Φ d (.b2s x) K σ=oM (σ.val (.b2s x)) (fx σ d K):=de rfl
theorem aey{x}:ah Φ d (.b2s x) K σ=af Φ d (.b2s x) K σ:=propext zAa
theorem a_sls{x y z}:af Φ d (.sls x y z) K σ=oM (σ.val (.sls x y z)) (fx σ d K):=de rfl
theorem adZ{x y z}:ah Φ d (.sls x y z) K σ=af Φ d (.sls x y z) K σ:=propext zAa
theorem a_slq{x y z w}:af Φ d (.slq x y z w) K σ=oM (σ.val (.slq x y z w)) (fx σ d K):=de rfl
theorem ad0{x y z w}:ah Φ d (.slq x y z w) K σ=af Φ d (.slq x y z w) K σ:=propext zAa
theorem adS{x}:af Φ d (.lens x) K σ=oM (σ.val (.lens x)) (fx σ d K):=de rfl
theorem aaU{x}:ah Φ d (.lens x) K σ=af Φ d (.lens x) K σ:=propext zAa
theorem adT{x}:af Φ d (.lenq x) K σ=oM (σ.val (.lenq x)) (fx σ d K):=de rfl
theorem aaV{x}:ah Φ d (.lenq x) K σ=af Φ d (.lenq x) K σ:=propext zAa
theorem a_beq{x y z}:af Φ d (.beq x y z) K σ=oM (σ.val (.beq x y z)) (fx σ d K):=de rfl
theorem aex{x y z}:ah Φ d (.beq x y z) K σ=af Φ d (.beq x y z) K σ:=propext zAa
theorem a_ext{x y}:af Φ d (.ext x y) K σ=oM (σ.val (.ext x y)) (fx σ d K):=de rfl
theorem aeo{x y}:ah Φ d (.ext x y) K σ=af Φ d (.ext x y) K σ:=propext zAa
theorem a_bld{x y}:af Φ d (.bld x y) K σ=oM (σ.val (.bld x y)) (fx σ d K):=de rfl
theorem aev{x y}:ah Φ d (.bld x y) K σ=af Φ d (.bld x y) K σ:=propext zAa
theorem a_mkf{x y z}:af Φ d (.mkf x y z) K σ=oM (σ.val (.mkf x y z)) (fx σ d K):=de rfl
theorem aef{x y z}:ah Φ d (.mkf x y z) K σ=af Φ d (.mkf x y z) K σ:=propext zAa
theorem a_nlc{x}:af Φ d (.nlc x) K σ=oM (σ.val (.nlc x)) (fx σ d K):=de rfl
theorem ad7{x}:ah Φ d (.nlc x) K σ=af Φ d (.nlc x) K σ:=propext zAa
theorem a_tya{x y z w}:af Φ d (.tya x y z w) K σ=oM (σ.val (.tya x y z w)) (fx σ d K):=de rfl
theorem adY{x y z w}:ah Φ d (.tya x y z w) K σ=af Φ d (.tya x y z w) K σ:=propext zAa
theorem a_mki{x y}:af Φ d (.mki x y) K σ=oM (σ.val (.mki x y)) (fx σ d K):=de rfl
theorem aee{x y}:ah Φ d (.mki x y) K σ=af Φ d (.mki x y) K σ:=propext zAa
theorem a_aeq{x y z w}:af Φ d (.aeq x y z w) K σ=oM (σ.val (.aeq x y z w)) (fx σ d K):=de rfl
theorem aeF{x y z w}:ah Φ d (.aeq x y z w) K σ=af Φ d (.aeq x y z w) K σ:=propext zAa
theorem a_lkp{x y z w u}:af Φ d (.lkp x y z w u) K σ=oM (σ.val (.lkp x y z w u)) (fx σ d K):=de rfl
theorem aeh{x y z w u}:ah Φ d (.lkp x y z w u) K σ=af Φ d (.lkp x y z w u) K σ:=propext zAa
theorem a_mm{x y z}:af Φ d (.mm x y z) K σ=oM (σ.val (.mm x y z)) (fx σ d K):=de rfl
theorem aD_mm{x y z}:ah Φ d (.mm x y z) K σ=af Φ d (.mm x y z) K σ:=propext zAa
theorem a_nlq{x y z}:af Φ d (.nlq x y z) K σ=oM (σ.val (.nlq x y z)) (fx σ d K):=de rfl
theorem ad6{x y z}:ah Φ d (.nlq x y z) K σ=af Φ d (.nlq x y z) K σ:=propext zAa
theorem aeD{x}:ah Φ d (.alc x) K σ=af Φ d (.alc x) K σ:=propext zAa
theorem aeu{x}:ah Φ d (.box x) K σ=af Φ d (.box x) K σ:=propext zAa
theorem aD_st{x y z}:ah Φ d (.st x y z) K σ=af Φ d (.st x y z) K σ:=propext zAa
def A2(σ:St)(x y:AO):Option Bool:=match σ.ev y with
 |some v=>some (rG x v)
 |none=>none
def XV(A:Prop)(b:Bool):Prop:=match b with
 |true=>False
 |false=>A
theorem UD{A:Prop}:XV A false=A:=propext zAa
theorem X2{x y z w u}:ah Φ d (.app x y z w u) K σ=oM (A2 σ x y) (XV (af Φ d (.app x y z w u) K σ)):=by
 simp only[ah,A2];cases σ.ev y with
 |none=>rfl
 |some v=>simp only[oM];cases rG x v<;>simp[XV]
theorem aeC{z}:ah Φ d (.alq z) K σ=af Φ d (.alq z) K σ:=propext zAa
theorem aeb{e sz by' z n}:ah Φ d (.mkq e sz by' z n) K σ=af Φ d (.mkq e sz by' z n) K σ:=propext zAa
theorem XZ{e sz xs}:ah Φ d (.ltr e sz xs) K σ=af Φ d (.ltr e sz xs) K σ:=propext zAa
theorem aea{x y z w u}:ah Φ d (.mks x y z w u) K σ=af Φ d (.mks x y z w u) K σ:=propext zAa
theorem aeg{x y z w}:ah Φ d (.mk0 x y z w) K σ=af Φ d (.mk0 x y z w) K σ:=propext zAa
theorem aed{x y z w u}:ah Φ d (.mkm x y z w u) K σ=af Φ d (.mkm x y z w u) K σ:=propext zAa
theorem ad2{x}:ah Φ d (.s2b x) K σ=af Φ d (.s2b x) K σ:=propext zAa
theorem a_alc{z}:af Φ d (.alc z) K σ=K ({ σ with h:=σ.h++[some (Ob.box z)] }.put d (.ptr σ.h.length 0)):=propext zAa
def adM(σ:St)(x:AO):Option (List V):=match σ.ev x with
 |some v=>if nt v=true then some (cl v)else none
 |none=>none
def boxK(σ:St)(d:Option Nat)(K:St->Prop)(cs:List V):Prop:=K ({ σ with h:=σ.h++[some (Ob.box cs)] }.put d (.ptr σ.h.length 0))
theorem XN{cs:List V}:boxK σ d K cs=K ({ σ with h:=σ.h++[some (Ob.box cs)] }.put d (.ptr σ.h.length 0)):=propext zAa
theorem a_box{x}:af Φ d (.box x) K σ=oM (adM σ x) (boxK σ d K):=by
 simp only[af,adM];cases σ.ev x with
 |none=>rfl
 |some v=>simp only;split<;>rfl
def stV(σ:St)(n:Nat)(p x:AO):Option St:=match σ.ev p,σ.ev x with
 |some a,some v=>if nt v=true then σ.stor n a (cl v)else none
 |_,_=>none
theorem a_st{n p x}:af Φ d (.st n p x) K σ=oM (stV σ n p x) (skK d K):=by
 simp only[af,stV];cases σ.ev p with
 |none=>rfl
 |some a=>cases σ.ev x with
   |none=>rfl
   |some v=>
     simp only;split
     ·cases σ.stor n a (cl v)<;>rfl
     ·rfl
def acr(σ:St)(x:AO):Option (List UInt8):=match σ.ev x with
 |some (.str s)=>some s
 |_=>none
def s2bK(σ:St)(d:Option Nat)(K:St->Prop)(s:List UInt8):Prop:=rqK (s.length<=140737488355328) K (σ.put d (.seq 1 (fJ s)))
theorem VY{s:List UInt8}:s2bK σ d K s=rqK (s.length<=140737488355328) K (σ.put d (.seq 1 (fJ s))):=propext zAa
theorem a_s2b{x}:af Φ d (.s2b x) K σ=oM (acr σ x) (s2bK σ d K):=by
 simp only[af,acr,oM];cases σ.ev x with
 |none=>rfl
 |some v=>cases v<;>rfl
def aad(σ:St)(d:Option Nat)(sz:Nat)(K:St->Prop)(vs us:List V):Prop:=rqK (aZ sz us=true/\us.length<=16777216) K ((σ.kill (am vs)).put d (.seq sz us))
theorem WK{sz:Nat}{vs us:List V}:aad σ d sz K vs us=rqK (aZ sz us=true/\us.length<=16777216) K ((σ.kill (am vs)).put d (.seq sz us)):=propext zAa
def WL(σ:St)(d:Option Nat)(sz:Nat)(K:St->Prop)(vs:List V):Prop:=oM (purs σ.h vs) (aad σ d sz K vs)
theorem TB{sz:Nat}{vs:List V}:WL σ d sz K vs=oM (purs σ.h vs) (aad σ d sz K vs):=propext zAa
theorem a_lit{e sz xs}:af Φ d (.lit e sz xs) K σ=oM (σ.evs xs) (WL σ d sz K):=by
 simp only[af,oM];cases σ.evs xs with
 |none=>rfl
 |some vs=>
   simp only[WL,oM];cases purs σ.h vs with
   |none=>rfl
   |some us=>simp only[aad,rqK,and_assoc]
def R9(σ:St)(d:Option Nat)(sz:Nat)(K:St->Prop)(us:List V):Prop:=rqK (aZ sz us=true/\us.length<=16777216) K (σ.put d (.seq sz us))
theorem TC{sz:Nat}{us:List V}:R9 σ d sz K us=rqK (aZ sz us=true/\us.length<=16777216) K (σ.put d (.seq sz us)):=propext zAa
def Qj(σ:St)(d:Option Nat)(sz:Nat)(K:St->Prop)(vs:List V):Prop:=oM (purs [] vs) (R9 σ d sz K)
theorem Qi{sz:Nat}{vs:List V}:Qj σ d sz K vs=oM (purs [] vs) (R9 σ d sz K):=propext zAa
theorem aei{e sz xs}:ah Φ d (.lit e sz xs) K σ=oM (σ.evs xs) (Qj σ d sz K):=by
 simp only[ah,oM];cases σ.evs xs with
 |none=>rfl
 |some vs=>
   simp only[Qj,oM];cases purs [] vs with
   |none=>rfl
   |some us=>simp only[R9,rqK,and_assoc]
def O1(σ:St)(e sz by':Nat)(u v:V):Option (St×V×Nat):=match src σ.h v with
 |some (.seq sz' l)=>if sz'=sz then
   (match u with
   | .nil _=>some ({ σ with h:=σ.h++[some (Ob.arr e sz l)] },.ref σ.h.length l.length,l.length*by')
   | .ref id n=>match σ.arr? id with
     |some (e',sz',l0)=>if e'=e/\sz'=sz/\n=l0.length then
       some ({ σ with h:=σ.h.set id (some (Ob.arr e sz (l0++l))) },.ref id (n+l.length),(n+l.length)*by')else none
     |none=>none
   | .mref id i n=>match σ.rws? id with
     |some (e1,e2,sz2,rows)=>match aV rows i with
       |some r=>if e2=e/\sz2=sz/\n=r.length then
         some ({ σ with h:=σ.h.set id (some (Ob.mat e1 e2 sz2 (rows.set i (.g r.length))))++[some (Ob.arr e sz (r++l))] },.ref σ.h.length (n+l.length),(n+l.length)*by')else none
       |none=>none
     |none=>none
   |_=>none)else none
 |_=>none
def OY(σ:St)(e sz by' k j n:Nat)(v:V):Option (St×V×Nat):=match σ.pl? with
 |some ms=>match ms[j]?,DQ σ ms sz v with
   |some (.rw e' sz' l0),some l=>if k=1/\e'=e/\sz'=sz/\n=l0.length then some (σ.setP (ms.set j (.rw e sz (l0++l))),.q 1 j (n+l.length) 0 0,(n+l.length)*by')else none
   |_,_=>none
 |none=>none
def OZ(σ:St)(e sz by' k j n:Nat):Option (St×V×Nat):=match σ.pl? with
 |some ms=>match ms[j]? with
   |some (.rw _ sz' l)=>if k=1/\sz'=sz/\n=l.length then some (σ.setP (ms++[.rw e sz l]),.q 1 ms.length n 0 0,n*by')else none
   |_=>none
 |none=>none
def aaN(σ:St)(x y:AO)(e sz by':Nat):Option (St×V×Nat):=match σ.ev x,σ.ev y with
 |some (.q k j n _ _),some v=>OY σ e sz by' k j n v
 |some (.nil _),some (.q k j n _ _)=>OZ σ e sz by' k j n
 |some u,some v=>O1 σ e sz by' u v
 |_,_=>none
def GJ(d:Option Nat)(K:St->Prop)(p:St×V×Nat):Prop:=rqK (p.2.2<=140737488355328) K (p.1.put d p.2.1)
theorem XU{τ:St}{v:V}{n:Nat}:GJ d K (τ,v,n)=rqK (n<=140737488355328) K (τ.put d v):=propext zAa
theorem aaO{e sz by' k j n v}:Lq σ d e sz by' k j n v K=oM (OY σ e sz by' k j n v) (GJ d K):=by
 simp only[Lq,OY];cases σ.pl? with
 |none=>rfl
 |some ms=>
   simp only;cases ms[j]? with
   |none=>rfl
   |some m=>
     cases m with
     |bx e cs=>rfl
     |byt e s=>rfl
     |no=>rfl
     |rw e' sz' l0=>
       cases DQ σ ms sz v with
       |none=>rfl
       |some l=>
         simp only;split
         ·rename_i hc
          simp only[oM,GJ,rqK,hc.1,hc.2.1,hc.2.2.1,hc.2.2.2,true_and]
         ·rename_i hc
          simp only[oM];exact propext ⟨fun h=>hc ⟨h.1,h.2.1,h.2.2.1,h.2.2.2.1⟩,fun h=>h.elim⟩
theorem aaP{e sz by' k j n}:Lr σ d e sz by' k j n K=oM (OZ σ e sz by' k j n) (GJ d K):=by
 simp only[Lr,OZ];cases σ.pl? with
 |none=>rfl
 |some ms=>
   simp only;cases ms[j]? with
   |none=>rfl
   |some m=>
     cases m with
     |bx e cs=>rfl
     |byt e s=>rfl
     |no=>rfl
     |rw e' sz' l=>
       simp only;split
       ·rename_i hc
        simp only[oM,GJ,rqK,hc.1,hc.2.1,hc.2.2,true_and]
       ·rename_i hc
        simp only[oM];exact propext ⟨fun h=>hc ⟨h.1,h.2.1,h.2.2.1⟩,fun h=>h.elim⟩
def O0(σ:St)(d:Option Nat)(e sz by':Nat)(u v:V)(K:St->Prop):Prop:=match src σ.h v with
 |some (.seq sz' l)=>sz'=sz/\
   (match u with
   | .nil _=>l.length*by'<=140737488355328/\K ({ σ with h:=σ.h++[some (Ob.arr e sz l)] }.put d (.ref σ.h.length l.length))
   | .ref id n=>match σ.arr? id with
     |some (e',sz',l0)=>e'=e/\sz'=sz/\n=l0.length/\(n+l.length)*by'<=140737488355328/\
       K ({ σ with h:=σ.h.set id (some (Ob.arr e sz (l0++l))) }.put d (.ref id (n+l.length)))
     |none=>False
   | .mref id i n=>match σ.rws? id with
     |some (e1,e2,sz2,rows)=>match aV rows i with
       |some r=>e2=e/\sz2=sz/\n=r.length/\(n+l.length)*by'<=140737488355328/\
         K ({ σ with h:=σ.h.set id (some (Ob.mat e1 e2 sz2 (rows.set i (.g r.length))))++[some (Ob.arr e sz (r++l))] }.put d (.ref σ.h.length (n+l.length)))
       |none=>False
     |none=>False
   |_=>False)
 |_=>False
theorem Sr{e sz by' u v}:O0 σ d e sz by' u v K=oM (O1 σ e sz by' u v) (GJ d K):=by
 simp only[O0,O1];cases src σ.h v with
 |none=>rfl
 |some w=>
   cases w<;>try rfl
   rename_i sz' l;simp only;by_cases hs:sz'=sz
   ·simp only[hs,true_and,if_true]
    cases u<;>try rfl
    ·rename_i id n
     cases ha:σ.arr? id with
     |none=>simp only[ha];rfl
     |some p=>
       obtain⟨e',sz2,l0⟩:=p;simp only[ha];split
       ·rename_i hc
        simp only[oM,GJ,rqK,hc.1,hc.2.1,hc.2.2,true_and]
       ·rename_i hc
        simp only[oM];exact propext ⟨fun h=>hc ⟨h.1,h.2.1,h.2.2.1⟩,fun h=>h.elim⟩
    ·rename_i id i n
     cases ha:σ.rws? id with
     |none=>simp only[ha];rfl
     |some p=>
       obtain⟨e1,e2,sz2,rows⟩:=p;simp only[ha];cases hr:aV rows i with
       |none=>simp only[hr];rfl
       |some r=>
         simp only[hr];split
         ·rename_i hc
          simp only[oM,GJ,rqK,hc.1,hc.2.1,hc.2.2,true_and]
         ·rename_i hc
          simp only[oM];exact propext ⟨fun h=>hc ⟨h.1,h.2.1,h.2.2.1⟩,fun h=>h.elim⟩
   ·rw[if_neg hs]
    simp only[oM];exact propext ⟨fun h=>hs h.1,fun h=>h.elim⟩
theorem abu{x y e sz by'}:af Φ d (.app x y e sz by') K σ=oM (aaN σ x y e sz by') (GJ d K):=by
 have key:∀u v:V,(∀k j n i o,u≠V.q k j n i o)->(∀z k j n i o,u=V.nil z->v≠V.q k j n i o)->(match some u,some v with
  |some (.q k j n i o),some v=>Lq σ d e sz by' k j n v K
  |some (.nil _),some (.q k j n i o)=>Lr σ d e sz by' k j n K
  |some u,some v=>O0 σ d e sz by' u v K
  |_,_=>False)=oM (match some u,some v with
  |some (.q k j n _ _),some v=>OY σ e sz by' k j n v
  |some (.nil _),some (.q k j n _ _)=>OZ σ e sz by' k j n
  |some u,some v=>O1 σ e sz by' u v
  |_,_=>none) (GJ d K):=by
  intro u v h1 h2;cases u<;>try exact Sr
  ·cases v<;>first|exact Sr|exact(h2 _ _ _ _ _ _ rfl rfl).elim
  ·exact(h1 _ _ _ _ _ rfl).elim
 simp only[af,aaN];cases σ.ev x with
 |none=>cases σ.ev y<;>rfl
 |some u=>cases σ.ev y with
   |none=>cases u<;>rfl
   |some v=>
     by_cases hq:∃k j n i o,u=.q k j n i o
     ·obtain⟨k,j,n,i,o,rfl⟩:=hq
      exact aaO
     ·by_cases hn:∃z k j n i o,u=.nil z/\v=.q k j n i o
      ·obtain⟨z,k,j,n,i,o,rfl,rfl⟩:=hn
       exact aaP
      ·exact key u v (fun k j n i o e=>hq ⟨k,j,n,i,o,e⟩) (fun z k j n i o e e'=>hn ⟨z,k,j,n,i,o,e,e'⟩)
def pK(d:Option Nat)(K:St->Prop)(p:St×V):Prop:=K (p.1.put d p.2)
theorem adf{τ:St}{v:V}:pK d K (τ,v)=K (τ.put d v):=propext zAa
def aaQ(σ:St)(z:List V):Option (St×V):=match σ.pl?,qt z with
 |some ms,some z'=>some (σ.setP (ms++[.bx 0 z']),.q 0 ms.length 0 0 0)
 |_,_=>none
def aaA(σ:St)(x:AO):Option (Nat×Nat×Nat×List V):=match σ.ev x with
 |some (.ref id n)=>match σ.arr? id with
   |some (_,sz,l)=>some (id,n,sz,l)
   |none=>none
 |_=>none
def cvbK(σ:St)(d:Option Nat)(K:St->Prop)(p:Nat×Nat×Nat×List V):Prop:=rqK (p.2.2.1=1/\p.2.1=p.2.2.2.length/\p.2.2.2≠[]) K ({ σ with h:=σ.h.set p.1 none }.put d (.seq 1 p.2.2.2))
theorem OO{id n sz l}:cvbK σ d K (id,n,sz,l)=rqK (sz=1/\n=l.length/\l≠[]) K ({ σ with h:=σ.h.set id none }.put d (.seq 1 l)):=propext zAa
theorem abq{x}:af Φ d (.cvb x) K σ=oM (aaA σ x) (cvbK σ d K):=by
 simp only[af,aaA];cases σ.ev x with
 |none=>rfl
 |some v=>
   cases v with
   |ref id n=>
     simp only;cases σ.arr? id with
     |none=>rfl
     |some p=>
       obtain⟨e,sz,l⟩:=p;simp only[oM,OO,rqK,and_assoc]
   |_=>rfl
theorem aer{x}:ah Φ d (.cvb x) K σ=af Φ d (.cvb x) K σ:=propext zAa
theorem abr{x}:af Φ d (.bxq x) K σ=oM (GG σ x) (pK d K):=by
 simp only[af];cases GG σ x<;>rfl
theorem aet{x}:ah Φ d (.bxq x) K σ=af Φ d (.bxq x) K σ:=propext zAa
theorem abw{z}:af Φ d (.alq z) K σ=oM (aaQ σ z) (pK d K):=by
 simp only[af,aaQ];cases σ.pl?<;>cases qt z<;>rfl
def Z4(σ:St)(z:V)(n:AO):Option (Int×List Po×V):=match σ.ev n,σ.pl?,low z with
 |some (.int _ m),some ms,some z'=>some (m,ms,z')
 |_,_,_=>none
def ado(σ:St)(d:Option Nat)(e sz by':Nat)(K:St->Prop)(p:Int×List Po×V):Prop:=rqK (0<=p.1/\p.1*by'<=140737488355328) K ((σ.setP (p.2.1++[.rw e sz (zBa p.1.toNat p.2.2)])).put d (.q 1 p.2.1.length p.1.toNat 0 0))
theorem WA{e sz by'}{m:Int}{ms z}:ado σ d e sz by' K (m,ms,z)=rqK (0<=m/\m*by'<=140737488355328) K ((σ.setP (ms++[.rw e sz (zBa m.toNat z)])).put d (.q 1 ms.length m.toNat 0 0)):=propext zAa
theorem abo{e sz by' z n}:af Φ d (.mkq e sz by' z n) K σ=oM (Z4 σ z n) (ado σ d e sz by' K):=by
 simp only[af,Z4];cases σ.ev n with
 |none=>cases σ.pl?<;>cases low z<;>rfl
 |some v=>cases v<;>cases σ.pl?<;>cases low z<;>first|rfl|simp only[oM,ado,rqK,and_assoc]
def R4(σ:St)(e sz:Nat)(vs:List V):Option (St×V×List V):=match σ.pl?,qt vs with
 |some ms,some us=>some (σ.setP (ms++[.rw e sz us]),.q 1 ms.length us.length 0 0,us)
 |_,_=>none
def WI(d:Option Nat)(sz:Nat)(K:St->Prop)(p:St×V×List V):Prop:=rqK (aZ sz p.2.2=true/\p.2.2.length<=16777216/\0<sz) K (p.1.put d p.2.1)
theorem Tz{sz:Nat}{τ:St}{v:V}{us:List V}:WI d sz K (τ,v,us)=rqK (aZ sz us=true/\us.length<=16777216/\0<sz) K (τ.put d v):=propext zAa
theorem Nc{e sz:Nat}{vs:List V}:EH σ d e sz vs K=oM (R4 σ e sz vs) (WI d sz K):=by
 simp only[EH,R4];cases σ.pl?<;>cases qt vs<;>first|rfl|simp only[oM,WI,rqK,and_assoc]
def aaa(σ:St)(d:Option Nat)(e sz:Nat)(K:St->Prop)(vs us:List V):Prop:=rqK (aZ sz us=true/\us.length<=16777216) K (St.put ⟨(σ.kill (am vs)).r,(σ.kill (am vs)).h++[some (Ob.arr e sz us)]⟩ d (.ref (σ.kill (am vs)).h.length us.length))
theorem Nd{e sz:Nat}{vs us:List V}:aaa σ d e sz K vs us=rqK (aZ sz us=true/\us.length<=16777216) K (St.put ⟨(σ.kill (am vs)).r,(σ.kill (am vs)).h++[some (Ob.arr e sz us)]⟩ d (.ref (σ.kill (am vs)).h.length us.length)):=propext zAa
def WJ(σ:St)(d:Option Nat)(e sz:Nat)(K:St->Prop)(vs:List V):Prop:=oN (purs σ.h vs) (aaa σ d e sz K vs) (EH σ d e sz vs K)
theorem xT{e sz:Nat}{vs:List V}:WJ σ d e sz K vs=oN (purs σ.h vs) (aaa σ d e sz K vs) (EH σ d e sz vs K):=propext zAa
theorem XY{e sz xs}:af Φ d (.ltr e sz xs) K σ=oM (σ.evs xs) (WJ σ d e sz K):=by
 simp only[af];cases σ.evs xs with
 |none=>rfl
 |some vs=>
   simp only[WJ,oM];cases purs σ.h vs with
   |none=>rfl
   |some us=>simp only[oN,aaa,rqK,and_assoc]
def aaK(σ:St)(y:AO)(sz:Nat):Option (List V):=match σ.ev y with
 |some v=>match src σ.h v with
   |some (.seq sz' l)=>if sz'=sz then some l else none
   |_=>none
 |none=>none
def adN(σ:St)(d:Option Nat)(sz by':Nat)(K:St->Prop)(l:List V):Prop:=rqK (l.length*by'<=140737488355328) K (σ.put d (.seq sz l))
theorem XR{sz by':Nat}{l:List V}:adN σ d sz by' K l=rqK (l.length*by'<=140737488355328) K (σ.put d (.seq sz l)):=propext zAa
theorem abs{y e sz by'}:af Φ d (.apz y e sz by') K σ=oM (aaK σ y sz) (adN σ d sz by' K):=by
 simp only[af,aaK];cases σ.ev y with
 |none=>rfl
 |some v=>
   simp only;cases src σ.h v with
   |none=>rfl
   |some u=>
     cases u<;>try rfl
     simp only;split
     ·rename_i h;simp only[oM,adN,rqK,h,true_and]
     ·rename_i h;simp only[oM];exact propext ⟨fun g=>h g.1,fun g=>g.elim⟩
theorem aez{y e sz by'}:ah Φ d (.apz y e sz by') K σ=af Φ d (.apz y e sz by') K σ:=propext zAa
def ZB(σ:St)(y:AO):Option (List UInt8×List Po):=match σ.ev y,σ.pl? with
 |some (.str s),some ms=>some (s,ms)
 |_,_=>none
def sbqK(σ:St)(d:Option Nat)(K:St->Prop)(p:List UInt8×List Po):Prop:=rqK (p.1≠[]/\p.1.length<=140737488355328) K ((σ.setP (p.2++[.byt 0 p.1])).put d (.q 1 p.2.length p.1.length 0 0))
theorem VU{s ms}:sbqK σ d K (s,ms)=rqK (s≠[]/\s.length<=140737488355328) K ((σ.setP (ms++[.byt 0 s])).put d (.q 1 ms.length s.length 0 0)):=propext zAa
theorem abk{y}:af Φ d (.sbq y) K σ=oM (ZB σ y) (sbqK σ d K):=by
 simp only[af,ZB];cases σ.ev y with
 |none=>cases σ.pl?<;>rfl
 |some v=>cases v<;>cases σ.pl?<;>rfl
theorem ad1{y}:ah Φ d (.sbq y) K σ=af Φ d (.sbq y) K σ:=propext zAa
def XS(σ:St)(e k j n:Nat)(s:List UInt8):Option (Nat×Nat×St×V):=match σ.pl? with
 |some ms=>match ms[j]? with
   |some (.byt e0 s0)=>if k=1/\n=s0.length then some (e0,n+s.length,σ.setP (ms.set j (.byt e0 (s0++s))),.q 1 j (n+s.length) 0 0)else none
   |_=>none
 |none=>none
def adO(d:Option Nat)(e:Nat)(K:St->Prop)(p:Nat×Nat×St×V):Prop:=rqK ((p.1=0\/p.1=e)/\p.2.1<=140737488355328) K (p.2.2.1.put d p.2.2.2)
theorem XT{e e0 n:Nat}{τ:St}{v:V}:adO d e K (e0,n,τ,v)=rqK ((e0=0\/e0=e)/\n<=140737488355328) K (τ.put d v):=propext zAa
theorem DH{e k j n s}:xo σ d e k j n s K=oM (XS σ e k j n s) (adO d e K):=by
 simp only[xo,XS];cases σ.pl? with
 |none=>rfl
 |some ms=>
   simp only;cases ms[j]? with
   |none=>rfl
   |some m=>
     cases m<;>try rfl
     simp only;split
     ·rename_i hc
      simp only[oM,adO,rqK,hc.1,hc.2,true_and,and_assoc]
     ·rename_i hc
      simp only[oM];exact propext ⟨fun h=>hc ⟨h.1,h.2.2.1⟩,fun h=>h.elim⟩
def aaM(σ:St)(x y:AO):Option (Nat×Nat×Nat×List UInt8):=match σ.ev x,σ.ev y with
 |some (.q k j n _ _),some (.str s)=>some (k,j,n,s)
 |_,_=>none
def aaL(σ:St)(x y:AO):Option (Nat×Nat×Nat×List UInt8):=match σ.ev x,σ.ev y with
 |some (.q k j n _ _),some v=>match L0 σ v with
   |some s=>some (k,j,n,s)
   |none=>none
 |_,_=>none
def adP(σ:St)(d:Option Nat)(e:Nat)(K:St->Prop)(p:Nat×Nat×Nat×List UInt8):Prop:=xo σ d e p.1 p.2.1 p.2.2.1 p.2.2.2 K
theorem DI{e k j n:Nat}{s:List UInt8}:adP σ d e K (k,j,n,s)=xo σ d e k j n s K:=propext zAa
theorem abt{x y e}:af Φ d (.aps x y e) K σ=oM (aaM σ x y) (adP σ d e K):=by
 simp only[af,aaM];cases σ.ev x with
 |none=>cases σ.ev y<;>rfl
 |some u=>cases u<;>(cases σ.ev y with|none=>rfl|some v=>cases v<;>rfl)
theorem aeA{x y e}:ah Φ d (.aps x y e) K σ=af Φ d (.aps x y e) K σ:=propext zAa
theorem abv{x y e}:af Φ d (.apb x y e) K σ=oM (aaL σ x y) (adP σ d e K):=by
 simp only[af,aaL];cases σ.ev x with
 |none=>cases σ.ev y<;>rfl
 |some u=>cases u<;>(cases σ.ev y with|none=>rfl|some v=>first|rfl|(simp only;cases L0 σ v<;>rfl))
theorem aeB{x y e}:ah Φ d (.apb x y e) K σ=af Φ d (.apb x y e) K σ:=propext zAa
def albK(σ:St)(d:Option Nat)(t e:Nat)(z:List V)(K:St->Prop)(ms:List Po):Prop:=rqK (z=[.nilptr,.nil 1]) K ((σ.setP (ms++[.byt e [],.bx t [.nilptr,.q 1 ms.length 0 0 0]])).put d (.q 0 (ms.length+1) 0 0 0))
theorem XW{t e z ms}:albK σ d t e z K ms=rqK (z=[.nilptr,.nil 1]) K ((σ.setP (ms++[.byt e [],.bx t [.nilptr,.q 1 ms.length 0 0 0]])).put d (.q 0 (ms.length+1) 0 0 0)):=propext zAa
theorem abx{t e z}:af Φ d (.alb t e z) K σ=oM σ.pl? (albK σ d t e z K):=by
 simp only[af];cases σ.pl?<;>rfl
theorem aeE{t e z}:ah Φ d (.alb t e z) K σ=af Φ d (.alb t e z) K σ:=propext zAa
def Vs(σ:St)(x:AO):Option V:=match σ.ev x,σ.pl? with
 |some (.q k j n _ _),some ms=>match ms[j]? with
   |some (.byt _ s)=>if k=1/\n=s.length then some (if s=[]then .nilptr else .q 2 j n 0 0)else none
   |_=>none
 |_,_=>none
theorem abi{x}:af Φ d (.usd x) K σ=oM (Vs σ x) (fx σ d K):=by
 simp only[af,Vs];split
 ·rename_i k j n i0 o0 ms hx hms
  simp only[hx,hms];cases ms[j]? with
  |none=>rfl
  |some m=>
    cases m<;>try rfl
    rename_i e0 s;by_cases hc:k=1/\n=s.length
    ·simp only[if_pos hc,oM,fx]
     exact propext ⟨fun h=>h.2.2,fun h=>⟨hc.1,hc.2,h⟩⟩
    ·simp only[if_neg hc,oM]
     exact propext ⟨fun h=>hc ⟨h.1,h.2.1⟩,fun h=>h.elim⟩
 ·rename_i h
  split
  ·rename_i k j n i0 o0 ms hx hms
   exact(h _ _ _ _ _ _ hx hms).elim
  ·rfl
theorem adX{x}:ah Φ d (.usd x) K σ=af Φ d (.usd x) K σ:=propext zAa
def Pq(σ:St)(p n:AO):Option (Prop×Nat×St×List UInt8):=match σ.ev p,σ.ev n with
 |some .nilptr,some (.int .i64 m)=>some (m=0,0,σ,[])
 |some (.q k j m i o),some (.int .i64 q)=>match σ.pl? with
   |some ms=>match ms[j]? with
     |some (.byt e0 s)=>some (k=2/\i=0/\o=0/\m=s.length/\q=s.length/\s≠[],e0,σ.setP (ms.set j .no),s)
     |_=>none
   |none=>none
 |_,_=>none
def Zi(d:Option Nat)(e:Nat)(K:St->Prop)(p:Prop×Nat×St×List UInt8):Prop:=rqK (p.1/\(p.2.2.2=[]\/(e≠0/\p.2.1=e))) K (p.2.2.1.put d (.str p.2.2.2))
theorem Vr{e:Nat}{c:Prop}{e0:Nat}{τ:St}{s:List UInt8}:Zi d e K (c,e0,τ,s)=rqK (c/\(s=[]\/(e≠0/\e0=e))) K (τ.put d (.str s)):=propext zAa
theorem abh{p n e}:af Φ d (.ust p n e) K σ=oM (Pq σ p n) (Zi d e K):=by
 refine propext ⟨fun h=>?_,fun h=>?_⟩
 ·simp only[af]at h
  split at h
  ·rename_i m h1 h2
   simp only[Pq,h1,h2,oM,Zi];exact⟨⟨h.1,.inl trivial⟩,h.2⟩
  ·rename_i k j m i0 o0 q h1 h2
   split at h
   ·rename_i ms h3
    split at h
    ·rename_i e0 s hj
     obtain⟨g1,g2,g3,g4,g5,g6,g7,g8,g9⟩:=h;simp only[Pq,h1,h2,h3,hj,oM,Zi];exact⟨⟨⟨g1,g2,g3,g6,g7,g8⟩,.inr ⟨g4,g5⟩⟩,g9⟩
    ·exact h.elim
   ·exact h.elim
  ·exact h.elim
 ·unfold Pq at h
  split at h
  ·rename_i m h1 h2
   simp only[af,h1,h2];exact⟨h.1.1,h.2⟩
  ·rename_i k j m i0 o0 q h1 h2
   split at h
   ·rename_i ms h3
    split at h
    ·rename_i e0 s hj
     obtain⟨⟨⟨g1,g2,g3,g6,g7,g8⟩,g45⟩,g9⟩:=h;have g45:=g45.resolve_left g8;simp only[af,h1,h2,h3,hj];exact⟨g1,g2,g3,g45.1,g45.2,g6,g7,g8,g9⟩
    ·exact h.elim
   ·exact h.elim
  ·exact h.elim
theorem adW{p n e}:ah Φ d (.ust p n e) K σ=af Φ d (.ust p n e) K σ:=propext zAa
def Xr(σ:St)(kt:KT)(x k:AO):Option (V×St):=match σ.ev x,σ.ev k with
 |some (.ref id _),some kv=>match σ.mp? id with
   |some (kt',l)=>if kt'=kt then some (kv,{ σ with h:=σ.h.set id (some (Ob.mp kt (Ai kv l))) })else none
   |none=>none
 |_,_=>none
def delK(d:Option Nat)(kt:KT)(K:St->Prop)(p:V×St):Prop:=rqK (bc kt p.1=true) K (p.2.put d (.tup []))
theorem Xs{kt:KT}{kv:V}{τ:St}:delK d kt K (kv,τ)=rqK (bc kt kv=true) K (τ.put d (.tup [])):=propext zAa
theorem abp{kt x k}:af Φ d (.del kt x k) K σ=oM (Xr σ kt x k) (delK d kt K):=by
 refine propext ⟨fun h=>?_,fun h=>?_⟩
 ·simp only[af]at h
  split at h
  ·rename_i id n kv h1 h2
   split at h
   ·rename_i kt' l hm
    simp only[Xr,h1,h2,hm];rw[if_pos h.1];exact⟨h.2.1,h.2.2⟩
   ·exact h.elim
  ·exact h.elim
 ·unfold Xr at h
  split at h
  ·rename_i id n kv h1 h2
   split at h
   ·rename_i kt' l hm
    split at h
    ·rename_i hc
     simp only[af,h1,h2,hm];exact⟨hc,h.1,h.2⟩
    ·exact h.elim
   ·exact h.elim
  ·exact h.elim
theorem aep{kt x k}:ah Φ d (.del kt x k) K σ=af Φ d (.del kt x k) K σ:=propext zAa
def Pr(σ:St)(x hi:AO)(sz:Nat):Option (Int×Nat×St×V):=match σ.ev x,σ.ev hi with
 |some (.q k j n _ _),some (.int _ b)=>match σ.pl? with
   |some ms=>match ms[j]? with
     |some (.rw e sz' l)=>if k=1/\sz'=sz/\n=l.length then some (b,n,σ.setP (ms.set j .no++[.rw e sz (l.take b.toNat)]),.q 1 ms.length b.toNat 0 0)else none
     |_=>none
   |none=>none
 |some (.ref id n),some (.int _ b)=>match σ.arr? id with
   |some (e,sz',l)=>if sz'=sz/\n=l.length then some (b,n,{ σ with h:=σ.h.set id none++[some (Ob.arr e sz (l.take b.toNat))] },.ref σ.h.length b.toNat)else none
   |none=>none
 |_,_=>none
def trcK(d:Option Nat)(K:St->Prop)(p:Int×Nat×St×V):Prop:=rqK (0<=p.1/\p.1<=p.2.1) K (p.2.2.1.put d p.2.2.2)
theorem LS{b:Int}{n:Nat}{τ:St}{v:V}:trcK d K (b,n,τ,v)=rqK (0<=b/\b<=n) K (τ.put d v):=propext zAa
theorem abj{x hi sz}:af Φ d (.trc x hi sz) K σ=oM (Pr σ x hi sz) (trcK d K):=by
 refine propext ⟨fun h=>?_,fun h=>?_⟩
 ·simp only[af]at h
  split at h
  ·rename_i k j n i0 o0 kk b h1 h2
   split at h
   ·rename_i ms hms
    split at h
    ·rename_i e sz' l hj
     obtain⟨g1,g2,g3,g4,g5,g6⟩:=h;simp only[Pr,h1,h2,hms,hj,g1,g2,and_self,if_true,true_and];rw[if_pos g3];exact⟨⟨g4,g5⟩,g6⟩
    ·exact h.elim
   ·exact h.elim
  ·rename_i id n kk b h1 h2
   split at h
   ·rename_i e sz' l ha
    obtain⟨g2,g3,g4,g5,g6⟩:=h;simp only[Pr,h1,h2,ha,g2,true_and];rw[if_pos g3];exact⟨⟨g4,g5⟩,g6⟩
   ·exact h.elim
  ·exact h.elim
 ·unfold Pr at h
  split at h
  ·rename_i k j n i0 o0 kk b h1 h2
   split at h
   ·rename_i ms hms
    split at h
    ·rename_i e sz' l hj
     split at h
     ·rename_i hc
      simp only[af,h1,h2,hms,hj];exact⟨hc.1,hc.2.1,hc.2.2,h.1.1,h.1.2,h.2⟩
     ·exact h.elim
    ·exact h.elim
   ·exact h.elim
  ·rename_i id n kk b h1 h2
   split at h
   ·rename_i e sz' l ha
    split at h
    ·rename_i hc
     simp only[af,h1,h2,ha];exact⟨hc.1,hc.2,h.1.1,h.1.2,h.2⟩
    ·exact h.elim
   ·exact h.elim
  ·exact h.elim
def Qc(σ:St)(n:AO):Option Int:=match σ.ev n with
 |some (.int _ m)=>some m
 |_=>none
def adn(σ:St)(d:Option Nat)(e sz by':Nat)(z:V)(K:St->Prop)(m:Int):Prop:=
 rqK (0<=m/\m*by'<=140737488355328) K ({ σ with h:=σ.h++[some (Ob.arr e sz (zBa m.toNat z))] }.put d (.ref σ.h.length m.toNat))
theorem Wz{e sz by' z}{m:Int}:adn σ d e sz by' z K m=
 rqK (0<=m/\m*by'<=140737488355328) K ({ σ with h:=σ.h++[some (Ob.arr e sz (zBa m.toNat z))] }.put d (.ref σ.h.length m.toNat)):=propext zAa
theorem a_mks{e sz by' z n}:af Φ d (.mks e sz by' z n) K σ=oM (Qc σ n) (adn σ d e sz by' z K):=by
 simp only[af,Qc,oM];cases σ.ev n with
 |none=>rfl
 |some v=>cases v<;>first|rfl|simp only[adn,rqK,and_assoc]
def sm(l:List (List V)):List Rw:=l.map .a
theorem acF{l:List (List V)}:(sm l).length=l.length:=by simp[sm]
theorem VO{l:List (List V)}{i:Nat}:aV (sm l) i=l[i]?:=by
 unfold aV sm;rw[zDc];cases l[i]?<;>rfl
theorem Bk{sz:Nat}:∀{l:List (List V)},kq sz (sm l)=some (l.map (.seq sz))
 |[]=>rfl
 |r::l=>by
   have:=Bk (sz:=sz) (l:=l);simp only[sm]at this;simp[sm,kq,this]
theorem VN{l:List (List V)}{i:Nat}{r:List V}:(sm l).set i (.a r)=sm (l.set i r):=by simp[sm]
theorem SY{l:List (List V)}{i:Nat}:p5 (sm l) i=(l[i]?).map List.length:=by
 unfold p5 sm;rw[zDc];cases l[i]?<;>rfl
theorem Zw{l:List (List V)}{i k:Nat}(h:i<l.length):p5 ((sm l).set i (.g k)) i=some k:=by
 unfold p5;rw[List.getElem?_set_self (by simpa[sm]using h)]
theorem Zx{l:List (List V)}{i k:Nat}{r:List V}:((sm l).set i (.g k)).set i (.a r)=sm (l.set i r):=by rw[List.set_set,VN]
theorem RK:∀{l:List (List V)},zn (sm l)=l.all fun r=>dk r
 |[]=>rfl
 |r::l=>by
   have:=RK (l:=l);simp only[sm]at this;simp[sm,zn,this]
def Z5(σ:St)(d:Option Nat)(e by' e2 sz:Nat)(K:St->Prop)(m:Int):Prop:=
 rqK (0<=m/\m*by'<=140737488355328) K ({ σ with h:=σ.h++[some (Ob.mat e e2 sz (zBa m.toNat (.a [])))] }.put d (.ref σ.h.length m.toNat))
theorem WB{e by' e2 sz}{m:Int}:Z5 σ d e by' e2 sz K m=
 rqK (0<=m/\m*by'<=140737488355328) K ({ σ with h:=σ.h++[some (Ob.mat e e2 sz (sm (zBa m.toNat [])))] }.put d (.ref σ.h.length m.toNat)):=by simp[Z5,sm]
def adp(σ:St)(d:Option Nat)(e sz by':Nat)(K:St->Prop)(m:Int):Prop:=
 rqK (0<=m/\m*by'<=140737488355328) K ({ σ with h:=σ.h++[some (Ob.arr e sz [])] }.put d (.ref σ.h.length 0))
theorem WC{e sz by'}{m:Int}:adp σ d e sz by' K m=
 rqK (0<=m/\m*by'<=140737488355328) K ({ σ with h:=σ.h++[some (Ob.arr e sz [])] }.put d (.ref σ.h.length 0)):=propext zAa
theorem a_mk0{e sz by' n}:af Φ d (.mk0 e sz by' n) K σ=oM (Qc σ n) (adp σ d e sz by' K):=by
 simp only[af,Qc,oM];cases σ.ev n with
 |none=>rfl
 |some v=>cases v<;>first|rfl|simp only[adp,rqK,and_assoc]
theorem a_mkm{e by' e2 sz n}:af Φ d (.mkm e by' e2 sz n) K σ=oM (Qc σ n) (Z5 σ d e by' e2 sz K):=by
 simp only[af,Qc,oM];cases σ.ev n with
 |none=>rfl
 |some v=>cases v<;>first|rfl|simp only[Z5,rqK,and_assoc]
theorem a_mkp{kt}:af Φ d (.mkp kt) K σ=K ({ σ with h:=σ.h++[some (Ob.mp kt [])] }.put d (.ref σ.h.length 0)):=propext zAa
theorem aec{kt}:ah Φ d (.mkp kt) K σ=af Φ d (.mkp kt) K σ:=propext zAa
theorem ad8{x y z w}:ah Φ d (.mup x y z w) K σ=af Φ d (.mup x y z w) K σ:=propext zAa
def adm(σ:St)(kt:KT)(x k v:AO):Option St:=match σ.ev x,σ.ev k,σ.ev v with
 |some (.ref id _),some kv,some u=>match σ.mp? id,pur σ.h u with
   |some (kt',l),some u'=>if kt'=kt/\bc kt kv=true/\aD u=[]/\nt u'=true then some { σ with h:=σ.h.set id (some (Ob.mp kt (pG kv u' l))) }else none
   |_,_=>none
 |_,_,_=>none
theorem a_mup{kt x k v}:af Φ d (.mup kt x k v) K σ=oM (adm σ kt x k v) (skK d K):=by
 simp only[af,adm];cases σ.ev x with
 |none=>rfl
 |some a=>
   cases σ.ev k with
   |none=>cases a<;>rfl
   |some b=>
     cases σ.ev v with
     |none=>cases a<;>rfl
     |some c=>
       cases a<;>try rfl
       rename_i id n;simp only;cases σ.mp? id with
       |none=>rfl
       |some p=>
         obtain⟨kt',l⟩:=p;cases pur σ.h c with
         |none=>rfl
         |some u'=>
           simp only;by_cases hc:kt'=kt/\bc kt b=true/\aD c=[]/\nt u'=true
           ·rw[if_pos hc]
            exact propext ⟨fun h=>h.2.2.2.2,fun h=>⟨hc.1,hc.2.1,hc.2.2.1,hc.2.2.2,h⟩⟩
           ·rw[if_neg hc]
            exact propext ⟨fun h=>(hc ⟨h.1,h.2.1,h.2.2.1,h.2.2.2.1⟩).elim,fun h=>h.elim⟩
theorem TY{k:IntKind}{n:Int}:bc ⟨false,[.i k]⟩ (.int k n)=true:=by simp[bc,gY,cl,bS,kOf,aS]
theorem TX{s:List UInt8}:bc ⟨false,[.s]⟩ (.str s)=true:=by simp[bc,gY,cl,bS,kOf,aS]
def clK(Φ:Ctr)(d:Option Nat)(f:FuncId)(vs:List V)(σ:St)(K:St->Prop)(us:List V):Prop:=kC Φ d f vs us K σ
def adH(Φ:Ctr)(d:Option Nat)(f:FuncId)(σ:St)(K:St->Prop)(vs:List V):Prop:=oN (purs σ.h vs) (clK Φ d f vs σ K) (et Φ d f vs K σ)
theorem aaH{f vs us}:clK Φ d f vs σ K us=kC Φ d f vs us K σ:=propext zAa
theorem XA{f vs}:adH Φ d f σ K vs=oN (purs σ.h vs) (clK Φ d f vs σ K) (et Φ d f vs K σ):=propext zAa
theorem adU{f xs}:af Φ d (.call f xs) K σ=oM (σ.evs xs) (adH Φ d f σ K):=by
 simp only[af,oM];cases σ.evs xs with
 |none=>rfl
 |some vs=>simp only[adH,oN];cases purs σ.h vs<;>rfl
def chK(Φ:Ctr)(d:Option Nat)(f:FuncId)(σ:St)(K:St->Prop)(vs:List V):Prop:=et Φ d f vs K σ
theorem aaI{f vs}:chK Φ d f σ K vs=et Φ d f vs K σ:=propext zAa
theorem aaS{f xs}:af Φ d (.callH f xs) K σ=oM (σ.evs xs) (chK Φ d f σ K):=by
 simp only[af,oM];cases σ.evs xs<;>rfl
def aby(σ:St)(g:AO)(xs:List AO):Option (V×List V×List V×St×Bool):=match σ.ev g,σ.evs xs with
 |some (.ref id _),some vs=>match σ.gh? id,purs σ.h vs with
   |some ((v,b)::l),some us=>some (v,us,vs,{ σ with h:=σ.h.set id (some (Ob.gh l)) },b)
   |_,_=>none
 |_,_=>none
def yldK(d:Option Nat)(K:St->Prop)(p:V×List V×List V×St×Bool):Prop:=p.1=.tup p.2.1/\am p.2.2.1=[]/\K (p.2.2.2.1.put d (.bool p.2.2.2.2))
theorem UL{v:V}{us vs:List V}{τ:St}{b:Bool}:yldK d K (v,us,vs,τ,b)=(v=.tup us/\am vs=[]/\K (τ.put d (.bool b))):=propext zAa
theorem a_yld{g xs}:af Φ d (.yld g xs) K σ=oM (aby σ g xs) (yldK d K):=by
 simp only[af,aby];cases σ.ev g with
 |none=>rfl
 |some u=>
   cases σ.evs xs with
   |none=>cases u<;>rfl
   |some vs=>
     cases u<;>try rfl
     rename_i id n;simp only;cases σ.gh? id with
     |none=>rfl
     |some l=>
       cases l with
       |nil=>rfl
       |cons x l=>
         obtain⟨v,b⟩:=x;cases purs σ.h vs<;>rfl
theorem adV{g xs}:ah Φ d (.yld g xs) K σ=af Φ d (.yld g xs) K σ:=propext zAa
def ZH(σ:St)(x:AO):Option (St×V):=match σ.ev x with
 |some (.str s)=>some ({ σ with h:=σ.h++[some (Ob.itr s 0)] },.ref σ.h.length 0)
 |_=>none
def acZ(d:Option Nat)(K:St->Prop)(p:St×V):Prop:=K (p.1.put d p.2)
theorem Wb{τ:St}{v:V}:acZ d K (τ,v)=K (τ.put d v):=propext zAa
theorem abm{x}:af Φ d (.rgs x) K σ=oM (ZH σ x) (acZ d K):=by
 simp only[af,ZH];cases σ.ev x with
 |none=>rfl
 |some u=>cases u<;>rfl
theorem ad3{x}:ah Φ d (.rgs x) K σ=af Φ d (.rgs x) K σ:=propext zAa
def Z1(σ:St)(x:AO):Option (St×V):=match σ.ev x with
 |some (.ref id _)=>match σ.itr? id with
   |some (s,p)=>some (if p<s.length then({ σ with h:=σ.h.set id (some (Ob.itr s (p+(wF s p).2))) },.tup [.bool true,.int .i64 p,.int .i32 (wF s p).1])else(σ,.tup [.bool false]))
   |none=>none
 |_=>none
theorem abn{x}:af Φ d (.nxs x) K σ=oM (Z1 σ x) (acZ d K):=by
 simp only[af,Z1];cases σ.ev x with
 |none=>rfl
 |some u=>
   cases u<;>try rfl
   rename_i id n;simp only;cases σ.itr? id with
   |none=>rfl
   |some p=>
     obtain⟨s,p⟩:=p;simp only[oM];split<;>rfl
theorem ad5{x}:ah Φ d (.nxs x) K σ=af Φ d (.nxs x) K σ:=propext zAa
def Up(Φ:Ctr)(d:Option Nat)(f:FuncId)(vs:List V)(σ:St)(K:St->Prop)(us:List V):Prop:=ns Φ d f vs us K σ
def XC(Φ:Ctr)(d:Option Nat)(f:FuncId)(σ:St)(K:St->Prop)(vs:List V):Prop:=oM (purs σ.h vs) (Up Φ d f vs σ K)
theorem XB{f vs us}:Up Φ d f vs σ K us=ns Φ d f vs us K σ:=propext zAa
theorem Uo{f vs}:XC Φ d f σ K vs=oM (purs σ.h vs) (Up Φ d f vs σ K):=propext zAa
theorem aaW{f xs}:ah Φ d (.call f xs) K σ=oM (σ.evs xs) (XC Φ d f σ K):=by
 simp only[ah,oM];cases σ.evs xs with
 |none=>rfl
 |some vs=>simp only[XC,oM];cases purs σ.h vs<;>rfl
def fnV(σ:St)(g:AO)(xs:List AO):Option (FuncId×List V):=match σ.ev g,σ.evs xs with
 |some (.fn (.func f) a b),some vs=>some (f,a++vs++b)
 |_,_=>none
def cvK(Φ:Ctr)(d:Option Nat)(σ:St)(K:St->Prop)(p:FuncId×List V):Prop:=oN (purs σ.h p.2) (clK Φ d p.1 p.2 σ K) (et Φ d p.1 p.2 K σ)
def WU(σ:St)(tbl:List (Nat×FuncId))(x:AO)(xs:List AO):Option (FuncId×List V):=match σ.ev x,σ.evs xs with
 |some (.iface t v),some vs=>match lkF tbl t with
   |some f=>some (f,v::vs)
   |none=>none
 |_,_=>none
theorem a_inv{tbl x xs}:af Φ d (.inv tbl x xs) K σ=oM (WU σ tbl x xs) (cvK Φ d σ K):=by
 simp only[af,WU];cases σ.ev x with
 |none=>rfl
 |some a=>
   cases σ.evs xs with
   |none=>cases a<;>rfl
   |some vs=>
     cases a<;>try rfl
     rename_i t v;simp only;cases lkF tbl t with
     |none=>rfl
     |some f=>simp only[oM,cvK,oN];cases purs σ.h (v::vs)<;>rfl
def ivK(Φ:Ctr)(d:Option Nat)(σ:St)(K:St->Prop)(p:FuncId×List V):Prop:=aag Φ d p.1 p.2 K σ
theorem a_ivp{tbl x xs}:af Φ d (.ivp tbl x xs) K σ=oM (σ.ivpV tbl x xs) (ivK Φ d σ K):=by
 simp only[af];cases σ.ivpV tbl x xs with
 |none=>rfl
 |some p=>rfl
theorem aah{f vs}:ivK Φ d σ K (f,vs)=oN (purs σ.h vs) (fun us=>kC Φ d f vs us K σ\/et Φ d f vs K σ) (et Φ d f vs K σ):=by
 simp only[ivK,aag,oN];cases purs σ.h vs<;>rfl
theorem aaB{f vs}:cvK Φ d σ K (f,vs)=oN (purs σ.h vs) (clK Φ d f vs σ K) (et Φ d f vs K σ):=propext zAa
theorem aaR{g xs}:af Φ d (.callv g xs) K σ=oM (fnV σ g xs) (cvK Φ d σ K):=by
 simp only[af,fnV,oM];cases σ.ev g with
 |none=>rfl
 |some v=>
   cases v with
   |fn f a b=>
     cases f<;>cases σ.evs xs<;>try rfl
     rename_i vs;simp only[cvK,oN];cases purs σ.h (a++vs++b)<;>rfl
   |_=>rfl
theorem ael{tbl x xs}:ah Φ d (.inv tbl x xs) K σ=oM (WU σ tbl x xs) (fun p=>oM (purs σ.h p.2) (Up Φ d p.1 p.2 σ K)):=by
 simp only[ah,WU];cases σ.ev x with
 |none=>rfl
 |some a=>
   cases σ.evs xs with
   |none=>cases a<;>rfl
   |some vs=>
     cases a<;>try rfl
     rename_i t v;simp only;cases lkF tbl t with
     |none=>rfl
     |some f=>simp only[oM];cases purs σ.h (v::vs)<;>rfl
def adF(Φ:Ctr)(d:Option Nat)(σ:St)(K:St->Prop)(p:FuncId×List V):Prop:=oM (purs σ.h p.2) (Up Φ d p.1 p.2 σ K)
theorem Xu{f vs}:adF Φ d σ K (f,vs)=oM (purs σ.h vs) (Up Φ d f vs σ K):=propext zAa
theorem X0{g xs}:ah Φ d (.callv g xs) K σ=oM (fnV σ g xs) (adF Φ d σ K):=by
 simp only[ah,fnV,oM];cases σ.ev g with
 |none=>rfl
 |some v=>
   cases v with
   |fn f a b=>
     cases f<;>cases σ.evs xs<;>try rfl
     rename_i vs;simp only[adF,oM];cases purs σ.h (a++vs++b)<;>rfl
   |_=>rfl
end
def Wd(post:V->Prop)(us:List V):Prop:=post (gp us)
theorem Wc{post:V->Prop}{us:List V}:Wd post us=post (gp us):=propext zAa
def Mk(post:V->Prop)(σ:St)(vs:List V):Prop:=oM (purs σ.h vs) (Wd post)
theorem Tc{post:V->Prop}{σ:St}{vs:List V}:Mk post σ vs=oM (purs σ.h vs) (Wd post):=propext zAa
theorem X4{rs:List RV}{post:V->Prop}{σ:St}:Res rs post .norm σ=oM (σ.rvs rs) (Mk post σ):=by
 unfold Res Mk oM;cases σ.rvs rs with
 |none=>simp
 |some vs=>simp only;cases purs σ.h vs<;>simp[Wd]
theorem aa2{rs:List RV}{post:V->Prop}{σ:St}:Res rs post .ret σ=oM (σ.rvs rs) (Mk post σ):=by
 unfold Res Mk oM;cases σ.rvs rs with
 |none=>simp
 |some vs=>simp only;cases purs σ.h vs<;>simp[Wd]
def Mo(σ:St)(ps:List Nat)(us:List V)(r:V)(H':List (Option Ob))(vs:List V):Prop:=Ml σ ps us r H' vs (dm σ.h (vA (pk σ.r ps)) vs).2
theorem Td{σ:St}{ps:List Nat}{us:List V}{r:V}{H':List (Option Ob)}{vs:List V}:Mo σ ps us r H' vs=Ml σ ps us r H' vs (dm σ.h (vA (pk σ.r ps)) vs).2:=propext zAa
theorem UI{rs:List RV}{σ:St}{ps:List Nat}{us:List V}{r:V}{H':List (Option Ob)}:Lx rs ps us r H' .norm σ=oM (σ.rvs rs) (Mo σ ps us r H'):=by
 unfold Lx oM;cases σ.rvs rs<;>simp[Mo]
theorem X8{rs:List RV}{σ:St}{ps:List Nat}{us:List V}{r:V}{H':List (Option Ob)}:Lx rs ps us r H' .ret σ=oM (σ.rvs rs) (Mo σ ps us r H'):=by
 unfold Lx oM;cases σ.rvs rs<;>simp[Mo]
section
variable{Φ:Ctr}{σ:St}{K:St->Prop}{d:Option Nat}
def adx(σ:St)(d:Option Nat)(K:St->Prop)(q:Nat)(m:List Nat)(r:V)(H':List (Option Ob)):Prop:=K (St.put ⟨σ.r,σ.back q m H'⟩ d (bck (yp q m σ.h.length H'.length) r))
theorem W6{q:Nat}{m:List Nat}{r:V}{H':List (Option Ob)}:adx σ d K q m r H'=K (St.put ⟨σ.r,σ.back q m H'⟩ d (bck (yp q m σ.h.length H'.length) r)):=propext zAa
theorem av(ps:List Nat)(q:Nat)(m:List Nat){f:FuncId}{vs us:List V}{H H':List (Option Ob)}{r:V}(hc:σ.curs (bw vs ps)=true)(hl:dm σ.h (bw vs ps) vs=(q,m))(hu:ew m vs=us)(hH:gD σ.h m m=H)
 (h:Φ.e f ps us H r H') (hk:kin q H H'=true) (k:ok r->okH H'->adx σ d K q m r H'):et Φ d f vs K σ:=by
 refine .inl ⟨ps,hc,r,H',?_,?_,?_⟩
 ·rw[hl,hH];exact hk
 ·rw[hl,hu,hH];exact h
 ·rw[hl];exact k
theorem GO(ps:List Nat)(q:Nat)(m:List Nat){f:FuncId}{vs us:List V}{H:List (Option Ob)}{Z:V->List (Option Ob)->Prop}(hc:σ.curs (bw vs ps)=true)(hl:dm σ.h (bw vs ps) vs=(q,m))(hu:ew m vs=us)(hH:gD σ.h m m=H)
 (h:Φ.x f ps us H Z) (k:∀r H',Z r H'->kin q H H'=true/\(ok r->okH H'->adx σ d K q m r H')):et Φ d f vs K σ:=by
 refine .inr (.inr (.inr ⟨ps,Z,hc,?_,?_⟩))
 ·rw[hl,hu,hH];exact h
 ·rw[hl,hH];exact k
end
def Mj(r:V)(us:List V):Prop:=gp us=r
theorem Tb{r:V}{us:List V}:Mj r us=(gp us=r):=propext zAa
def Bs(r:V)(σ:St)(vs:List V):Prop:=C0 σ.h vs=true/\oM (purs σ.h vs) (Mj r)
theorem PN{r:V}{σ:St}{vs:List V}:Bs r σ vs=(C0 σ.h vs=true/\oM (purs σ.h vs) (Mj r)):=propext zAa
theorem UH{rs:List RV}{r:V}{σ:St}:Lw rs r .norm σ=oM (σ.rvs rs) (Bs r σ):=by
 unfold Lw Bs oM;cases σ.rvs rs with
 |none=>simp
 |some vs=>simp only;cases purs σ.h vs<;>simp[Mj]
theorem X7{rs:List RV}{r:V}{σ:St}:Lw rs r .ret σ=oM (σ.rvs rs) (Bs r σ):=by
 unfold Lw Bs oM;cases σ.rvs rs with
 |none=>simp
 |some vs=>simp only;cases purs σ.h vs<;>simp[Mj]
theorem tupV0:gp []=.tup []:=rfl
theorem tupV1{v:V}:gp [v]=v:=rfl
theorem tupV2{v w:V}{l:List V}:gp (v::w::l)=.tup (v::w::l):=rfl
theorem acD{cs}:obI (some (some (.box cs)))=am cs:=by simp only[obI]
theorem acy{m}{cs}:bR m (some (.box cs))=some (.box (ew m cs)):=by simp only[bR]
theorem acM{m}{cs}:dn m (some (.box cs))=some (.box (mN m cs)):=by simp only[dn]
theorem acE{e sz l}:obI (some (some (.arr e sz l)))=[]:=by simp only[obI]
theorem acz{m}{e sz l}:bR m (some (.arr e sz l))=some (.arr e sz l):=by simp only[bR]
theorem acN{m}{e sz l}:dn m (some (.arr e sz l))=some (.arr e sz l):=by simp only[dn]
theorem acB{e e2 sz l}:obI (some (some (.mat e e2 sz l)))=[]:=by simp only[obI]
theorem acw{m}{e e2 sz l}:bR m (some (.mat e e2 sz l))=some (.mat e e2 sz l):=by simp only[bR]
theorem acK{m}{e e2 sz l}:dn m (some (.mat e e2 sz l))=some (.mat e e2 sz l):=by simp only[dn]
theorem so_mp{kt l}:obI (some (some (.mp kt l)))=[]:=by simp only[obI]
theorem sr_mp{m}{kt l}:bR m (some (.mp kt l))=some (.mp kt l):=by simp only[bR]
theorem sb_mp{m}{kt l}:dn m (some (.mp kt l))=some (.mp kt l):=by simp only[dn]
theorem so_gh{l}:obI (some (some (.gh l)))=[]:=by simp only[obI]
theorem sr_gh{m}{l}:bR m (some (.gh l))=some (.gh l):=by simp only[bR]
theorem sb_gh{m}{l}:dn m (some (.gh l))=some (.gh l):=by simp only[dn]
theorem acC{s p}:obI (some (some (.itr s p)))=[]:=by simp only[obI]
theorem acx{m}{s p}:bR m (some (.itr s p))=some (.itr s p):=by simp only[bR]
theorem acL{m}{s p}:dn m (some (.itr s p))=some (.itr s p):=by simp only[dn]
theorem acA{c}:obI (some (some (.tok c)))=[]:=by simp only[obI]
theorem acv{m}{c}:bR m (some (.tok c))=some (.tok c):=by simp only[bR]
theorem acJ{m}{c}:dn m (some (.tok c))=some (.tok c):=by simp only[dn]
theorem Zu{ms}:obI (some (some (.pool ms)))=[]:=by simp only[obI]
theorem Zt{m}{ms}:bR m (some (.pool ms))=some (.pool ms):=by simp only[bR]
theorem ZC{m}{ms}:dn m (some (.pool ms))=some (.pool ms):=by simp only[dn]
theorem Zv:obI none=[]:=by simp only[obI]
theorem so_no:obI (some none)=[]:=by simp only[obI]
theorem sr_no{m}:bR m none=none:=by simp only[bR]
theorem sb_no{m}:dn m none=none:=by simp only[dn]
attribute [simp] SA UO Ph Wu aaX aa0 aeJ SP Jz TK WQ TM TL aeG aeI aaZ aaY aeH Ss aeK W_ret aa1 GU SQ Vw Jy Ni vT Pf In BrK_t BrK_f BrK_n rqK_t V0 ZZ Z0 aaJ aan W7 adz Xx Zz Wj Vi SD wop_n Vk SE Pi ab4 Pj Vq SH XN VY WK TB TC Qi XU Wz WC WB acF VO SY Zw Zx Bk VN RK a_mkm a_yld adV UL abm ad3 abn ad5 Wb a_mkp aec ad8 a_mup a_inv ael a_ivp aah St.ivpV St.recv lkG TY TX aaH XA XB Uo aaB Xu Wc Tc ZX ZY aaI fz fzs aaS Td UI X8 W6 Tb PN UH X7 jk jks fre C0 a_mov adR a_fld a_fa a_ia a_iaa a_ld a_ixs a_ixa a_bin a_un a_cii a_r2s a_b2s a_sls a_slq adS adT a_beq a_ext a_bld a_mkf a_nlc a_mki a_tya adY a_aeq a_lkp a_mm a_nlq ad9 aaT aen aD_fa aD_ia aem aD_ld aej aek aew aD_un aes ad4 aey adZ ad0 aaU aaV aex aeo aev aef ad7 aee aeF aeh aD_mm ad6 aeD aeu aD_st X2 aea aeg aed ad2 a_alc a_box a_st a_s2b a_lit abu a_mks a_mk0 adU aaR aei aaW X0 adM stV acr aaN Qc fnV adm WU aby St.gh? ZH Z1 St.itr? lkF X4 aa2 tupV0 tupV1 tupV2 St.ev St.evs St.evo St.val St.put lk pk St.fetch St.box? St.arr? St.rws? St.mp? cut jn cl mkc Zg ab8 St.live St.fwd St.stor St.storM St.kill bldV isS nt cJ dk aD am pur purs pur1 pur2 src zn xD aZ cz gZ St.isNilM RF St.hide St.nowR St.nrm PM acD acy acM acE acz acN acB acw acK so_mp sr_mp sb_mp so_gh sr_gh sb_gh acC acx acL acA acv acJ Zu Zt ZC Zv so_no sr_no sb_no pJ DW ren ew gD cn idx St.mats St.mat ent St.rv St.rvs ok oks okH bw St.cur St.curA St.cur0 St.curs dm bck mN Lo wr yp St.back Ml vA Ho kin mW dL St.pl? St.setP low qt DQ VM OY OZ O1 A2 rG UD adf aaQ abw aeC GG abr aet aaA OO abq aer Z4 WA abo aeb R4 Tz Nc Pr LS aaK XR abs aez ZB VU abk ad1 XS XT DH aaM aaL DI L0 abt aeA abv aeB XW abx aeE Vs abi adX Pq Vr abh adW Xr Xs abp aep Ai
theorem nr(n:Int)(h1:-9223372036854775808<=n)(h2:n<=9223372036854775807):IntKind.i64.wrap n=n:=by
 rw[Go.IntKind.wrap_i64];omega
theorem max64:IntKind.i64.max=9223372036854775807:=by decide
theorem min64:IntKind.i64.min=-9223372036854775808:=by decide
theorem maxU8:IntKind.u8.max=255:=by decide
theorem minU8:IntKind.u8.min=0:=by decide
theorem Is(n:Int)(h1:0<=n)(h2:n<=255):IntKind.u8.wrap n=n:=by
 rw[Go.IntKind.wrap_u8];omega
theorem vc(n:Int)(h1:-2147483648<=n)(h2:n<=2147483647):IntKind.i32.wrap n=n:=by
 rw[Go.IntKind.wrap_i32];omega
theorem acj{a b:Int}(h1:-9223372036854775808<=a+b)(h2:a+b<=9223372036854775807):cP .add .i64 a b=some (.int .i64 (a+b)):=by simp only[cP,nr _ h1 h2]
theorem ab6{a b:Int}(h1:-9223372036854775808<=a-b)(h2:a-b<=9223372036854775807):cP .sub .i64 a b=some (.int .i64 (a-b)):=by simp only[cP,nr _ h1 h2]
theorem acd{a b:Int}(h1:-9223372036854775808<=a*b)(h2:a*b<=9223372036854775807):cP .mul .i64 a b=some (.int .i64 (a*b)):=by simp only[cP,nr _ h1 h2]
theorem vadd8{a b:Int}(h1:0<=a+b)(h2:a+b<=255):cP .add .u8 a b=some (.int .u8 (a+b)):=by simp only[cP,Is _ h1 h2]
theorem vsub8{a b:Int}(h1:0<=a-b)(h2:a-b<=255):cP .sub .u8 a b=some (.int .u8 (a-b)):=by simp only[cP,Is _ h1 h2]
theorem ack{a b:Int}(h1:-2147483648<=a+b)(h2:a+b<=2147483647):cP .add .i32 a b=some (.int .i32 (a+b)):=by simp only[cP,vc _ h1 h2]
theorem ab7{a b:Int}(h1:-2147483648<=a-b)(h2:a-b<=2147483647):cP .sub .i32 a b=some (.int .i32 (a-b)):=by simp only[cP,vc _ h1 h2]
theorem ace{a b:Int}(h1:-2147483648<=a*b)(h2:a*b<=2147483647):cP .mul .i32 a b=some (.int .i32 (a*b)):=by simp only[cP,vc _ h1 h2]
theorem acg{n:Int}(h1:-9223372036854775808<=n)(h2:n<=9223372036854775807):Ix .i64 n=some (.int .i64 n):=by simp only[Ix,nr _ h1 h2]
theorem vcii8{n:Int}(h1:0<=n)(h2:n<=255):Ix .u8 n=some (.int .u8 n):=by simp only[Ix,Is _ h1 h2]
theorem Ze{n:Int}(h1:0<=n)(h2:n<128):Zf n=some (.str [UInt8.ofNat n.toNat]):=by simp only[Zf,if_pos (And.intro h1 h2)]
theorem ach{n:Int}(h1:-2147483648<=n)(h2:n<=2147483647):Ix .i32 n=some (.int .i32 n):=by simp only[Ix,vc _ h1 h2]
theorem acb{n:Int}(h1:-9223372036854775808<=0-n)(h2:0-n<=9223372036854775807):vun .neg (.int .i64 n)=some (.int .i64 (0-n)):=by simp only[vun,nr _ h1 h2]
attribute [simp high] acj ab6 acd vadd8 vsub8 ack ab7 ace acg vcii8 ach Ze acb
theorem aca{a b:Int}(h0:0<=a)(h1:0<b)(h2:a<=9223372036854775807):cP .quo .i64 a b=some (.int .i64 (a/b)):=by
 have h3:0<=a/b:=Int.ediv_nonneg h0 (by omega)
 have h4:a/b<=a:=Int.ediv_le_self _ h0;simp only[cP];rw[if_neg (by omega),Int.tdiv_eq_ediv_of_nonneg h0,nr _ (by omega) (by omega)]
theorem ab9{k:IntKind}{a b:Int}(h0:0<=a)(h1:0<b):cP .rem k a b=some (.int k (a%b)):=by
 simp only[cP];rw[if_neg (by omega),Int.tmod_eq_emod_of_nonneg h0]
theorem vremt{k:IntKind}{a b:Int}(h1:b≠0):cP .rem k a b=some (.int k (a.tmod b)):=by
 simp only[cP];rw[if_neg h1]
theorem veql{k:IntKind}{a b:Int}:cP .eql k a b=some (.bool (decide (a=b))):=rfl
theorem vneq{k:IntKind}{a b:Int}:cP .neq k a b=some (.bool (!decide (a=b))):=rfl
theorem vlss{k:IntKind}{a b:Int}:cP .lss k a b=some (.bool (decide (a<b))):=rfl
theorem vleq{k:IntKind}{a b:Int}:cP .leq k a b=some (.bool (decide (a<=b))):=rfl
theorem vgtr{k:IntKind}{a b:Int}:cP .gtr k a b=some (.bool (decide (b<a))):=rfl
theorem vgeq{k:IntKind}{a b:Int}:cP .geq k a b=some (.bool (decide (b<=a))):=rfl
theorem vnot{b:Bool}:vun .not (.bool b)=some (.bool !b):=rfl
attribute [simp high] aca ab9
attribute [simp] veql vneq vlss vleq vgtr vgeq vnot vremt nr Is vc max64 min64 maxU8 minU8
theorem adi(m n:Nat):((no_index (@OfNat.ofNat Int m instOfNat))<=(n:Int))↔(@OfNat.ofNat Nat m (instOfNatNat m))<=n:=zDi
theorem adt(m n:Nat):((n:Int)<=(no_index (@OfNat.ofNat Int m instOfNat)))↔n<=(@OfNat.ofNat Nat m (instOfNatNat m)):=zDi
theorem adh(m n:Nat):((no_index (@OfNat.ofNat Int m instOfNat))<(n:Int))↔(@OfNat.ofNat Nat m (instOfNatNat m))<n:=zDj
theorem adr(m n:Nat):((n:Int)<(no_index (@OfNat.ofNat Int m instOfNat)))↔n<(@OfNat.ofNat Nat m (instOfNatNat m)):=zDj
theorem adj(m n:Nat):((no_index (@OfNat.ofNat Int m instOfNat))=(n:Int))↔(@OfNat.ofNat Nat m (instOfNatNat m))=n:=zDg
theorem adD(m n:Nat):((n:Int)=(no_index (@OfNat.ofNat Int m instOfNat)))↔n=(@OfNat.ofNat Nat m (instOfNatNat m)):=zDg
attribute [simp] adi adt adh adr adj adD
theorem get0{α:Type}{x:α}{l:List α}:(x::l)[0]?=some x:=rfl
attribute [simp] get0
theorem ite_t{p:Prop}[Decidable p]{α:Sort _}{a b:α}(h:p):(if p then a else b)=a:=if_pos h
theorem ite_f{p:Prop}[Decidable p]{α:Sort _}{a b:α}(h:¬p):(if p then a else b)=b:=if_neg h
attribute [simp] ite_t ite_f
theorem R0:∀{l:List V},oks l↔∀v∈l,ok v
 |[]=>by simp
 |v::vs=>by simp[R0]
theorem ce{α:Type}{l:List α}{k:Nat}{x:α}(h:l[k]?=some x):l.drop k=x::l.drop (k+1):=by
 obtain⟨h1,h2⟩:=zAf.1 h;rw[List.drop_eq_getElem_cons h1,h2]
theorem aP{α:Type}{l:List α}{k:Nat}(h:k<l.length):∃x,l[k]?=some x:=⟨_,List.getElem?_eq_getElem h⟩
theorem place{α:Type}(l:List α)(k:Nat)(h:k<=l.length):(k=l.length/\l.drop k=[])\/(k<l.length/\∃x,l[k]?=some x/\l.drop k=x::l.drop (k+1)):=by
 rcases zDa k l.length with h'|h'
 ·obtain⟨x,hx⟩:=aP h'
  exact .inr ⟨h',x,hx,ce hx⟩
 ·have:k=l.length:=by omega
  exact .inl ⟨this,by simp[this]⟩
def Hid(p:Prop):Prop:=p
theorem Hid.out{p:Prop}(h:Hid p):p:=h
theorem hid{p:Prop}(h:p):Hid p:=h
theorem Cn_p{P:Program}:(Cn P).p=Fn P:=rfl
theorem Cn_n{P:Program}:(Cn P).n=FnN P:=rfl
theorem Cn_e{P:Program}:(Cn P).e=FnH P:=rfl
def o1(d:Nat)(a:Act'):AOp:=⟨some d,a,none⟩
def o0(a:Act'):AOp:=⟨none,a,none⟩
def gt(t:Nat)(o:AOp):AOp:=⟨o.d,o.a,some (t,true)⟩
def gf(t:Nat)(o:AOp):AOp:=⟨o.d,o.a,some (t,false)⟩
def ts:List Nat->List AO
 |[]=>[]
 |t::l=>.t t::ts l
def m(d x:Nat):AOp:=⟨some d,.mov (.t x),none⟩
def mv(d:Nat)(v:V):AOp:=⟨some d,.mov (.v v),none⟩
def mi(d:Nat)(n:Int):AOp:=⟨some d,.mov (.v (.int .i64 n)),none⟩
def mb(d:Nat)(b:Bool):AOp:=⟨some d,.mov (.v (.bool b)),none⟩
def bt(d:Nat)(op:BinOp)(x y:Nat):AOp:=⟨some d,.bin op (.t x) (.t y),none⟩
def bi(d:Nat)(op:BinOp)(x:Nat)(n:Int):AOp:=⟨some d,.bin op (.t x) (.v (.int .i64 n)),none⟩
def bu(d:Nat)(op:BinOp)(x:Nat)(n:Int):AOp:=⟨some d,.bin op (.t x) (.v (.int .u8 n)),none⟩
def bs(d:Nat)(op:BinOp)(x:Nat)(s:List UInt8):AOp:=⟨some d,.bin op (.t x) (.v (.str s)),none⟩
def nt'(d x:Nat):AOp:=⟨some d,.un .not (.t x),none⟩
def ls(d x:Nat):AOp:=⟨some d,.lens (.t x),none⟩
def lq(d x:Nat):AOp:=⟨some d,.lenq (.t x),none⟩
def fa(d x o:Nat):AOp:=⟨some d,.fa (.t x) o,none⟩
def fl(d x o:Nat):AOp:=⟨some d,.fld (.t x) o 1 false,none⟩
def l1(d x:Nat):AOp:=⟨some d,.ld (.t x) 1 false,none⟩
def la(d x n:Nat):AOp:=⟨some d,.ld (.t x) n true,none⟩
def ia(d x i s:Nat):AOp:=⟨some d,.ia (.t x) (.t i) s,none⟩
def ix(d x i:Nat):AOp:=⟨some d,.ixs (.t x) (.t i),none⟩
def pa(d x y:Nat):AOp:=⟨some d,.pick (.t x) (.t y) (.v (.bool false)),none⟩
def po(d x y:Nat):AOp:=⟨some d,.pick (.t x) (.v (.bool true)) (.t y),none⟩
def ex(d x i:Nat):AOp:=⟨some d,.ext (.t x) i,none⟩
def bx(d x:Nat):AOp:=⟨some d,.box (.t x),none⟩
def st(n x y:Nat):AOp:=⟨none,.st n (.t x) (.t y),none⟩
def ca(d f:Nat)(l:List Nat):AOp:=⟨some d,.call f (ts l),none⟩
def ch(d f:Nat)(l:List Nat):AOp:=⟨some d,.callH f (ts l),none⟩
def cv(d g:Nat)(l:List Nat):AOp:=⟨some d,.callv (.t g) (ts l),none⟩
def Q:List AC->AC
 |[]=>.skip
 |[a]=>a
 |a::l=>.seq a (Q l)
def OQ:List AOp->OT->OT
 |[],t=>t
 |x::xs,t=>.op x (OQ xs t)
def C(c:Nat)(a b:AC):AC:=.cond (.t c) a b
theorem OQ0{t:OT}:OQ [] t=t:=rfl
theorem OQ1{x:AOp}{xs:List AOp}{t:OT}:OQ (x::xs) t=.op x (OQ xs t):=rfl
attribute [simp] OQ0 OQ1
section
variable{Φ:Ctr}{K:St->Prop}{σ:St}{Q':Ex->St->Prop}
theorem abG{d:Nat}{a:Act'}:wop Φ (o1 d a) K σ=af Φ (some d) (a) K σ:=propext zAa
theorem YP{d:Nat}{a:Act'}:aM Φ (o1 d a) K σ=ah Φ (some d) (a) K σ:=propext zAa
theorem abH{a:Act'}:wop Φ (o0 a) K σ=af Φ (none) (a) K σ:=propext zAa
theorem YQ{a:Act'}:aM Φ (o0 a) K σ=ah Φ (none) (a) K σ:=propext zAa
theorem wop_m{d x:Nat}:wop Φ (m d x) K σ=af Φ (some d) (.mov (.t x)) K σ:=propext zAa
theorem ab5{d x:Nat}:aM Φ (m d x) K σ=ah Φ (some d) (.mov (.t x)) K σ:=propext zAa
theorem abI{d:Nat}{v:V}:wop Φ (mv d v) K σ=af Φ (some d) (.mov (.v v)) K σ:=propext zAa
theorem YR{d:Nat}{v:V}:aM Φ (mv d v) K σ=ah Φ (some d) (.mov (.v v)) K σ:=propext zAa
theorem abJ{d:Nat}{n:Int}:wop Φ (mi d n) K σ=af Φ (some d) (.mov (.v (.int .i64 n))) K σ:=propext zAa
theorem YS{d:Nat}{n:Int}:aM Φ (mi d n) K σ=ah Φ (some d) (.mov (.v (.int .i64 n))) K σ:=propext zAa
theorem abK{d:Nat}{b:Bool}:wop Φ (mb d b) K σ=af Φ (some d) (.mov (.v (.bool b))) K σ:=propext zAa
theorem YT{d:Nat}{b:Bool}:aM Φ (mb d b) K σ=ah Φ (some d) (.mov (.v (.bool b))) K σ:=propext zAa
theorem ab1{d:Nat}{op:BinOp}{x y:Nat}:wop Φ (bt d op x y) K σ=af Φ (some d) (.bin op (.t x) (.t y)) K σ:=propext zAa
theorem Za{d:Nat}{op:BinOp}{x y:Nat}:aM Φ (bt d op x y) K σ=ah Φ (some d) (.bin op (.t x) (.t y)) K σ:=propext zAa
theorem ab3{d:Nat}{op:BinOp}{x:Nat}{n:Int}:wop Φ (bi d op x n) K σ=af Φ (some d) (.bin op (.t x) (.v (.int .i64 n))) K σ:=propext zAa
theorem Zc{d:Nat}{op:BinOp}{x:Nat}{n:Int}:aM Φ (bi d op x n) K σ=ah Φ (some d) (.bin op (.t x) (.v (.int .i64 n))) K σ:=propext zAa
theorem ab0{d:Nat}{op:BinOp}{x:Nat}{n:Int}:wop Φ (bu d op x n) K σ=af Φ (some d) (.bin op (.t x) (.v (.int .u8 n))) K σ:=propext zAa
theorem Y9{d:Nat}{op:BinOp}{x:Nat}{n:Int}:aM Φ (bu d op x n) K σ=ah Φ (some d) (.bin op (.t x) (.v (.int .u8 n))) K σ:=propext zAa
theorem ab2{d:Nat}{op:BinOp}{x:Nat}{s:List UInt8}:wop Φ (bs d op x s) K σ=af Φ (some d) (.bin op (.t x) (.v (.str s))) K σ:=propext zAa
theorem Zb{d:Nat}{op:BinOp}{x:Nat}{s:List UInt8}:aM Φ (bs d op x s) K σ=ah Φ (some d) (.bin op (.t x) (.v (.str s))) K σ:=propext zAa
theorem YK{d x:Nat}:wop Φ (nt' d x) K σ=af Φ (some d) (.un .not (.t x)) K σ:=propext zAa
theorem Vm{d x:Nat}:aM Φ (nt' d x) K σ=ah Φ (some d) (.un .not (.t x)) K σ:=propext zAa
theorem abL{d x:Nat}:wop Φ (ls d x) K σ=af Φ (some d) (.lens (.t x)) K σ:=propext zAa
theorem YU{d x:Nat}:aM Φ (ls d x) K σ=ah Φ (some d) (.lens (.t x)) K σ:=propext zAa
theorem abM{d x:Nat}:wop Φ (lq d x) K σ=af Φ (some d) (.lenq (.t x)) K σ:=propext zAa
theorem YV{d x:Nat}:aM Φ (lq d x) K σ=ah Φ (some d) (.lenq (.t x)) K σ:=propext zAa
theorem abU{d x o:Nat}:wop Φ (fa d x o) K σ=af Φ (some d) (.fa (.t x) o) K σ:=propext zAa
theorem Y3{d x o:Nat}:aM Φ (fa d x o) K σ=ah Φ (some d) (.fa (.t x) o) K σ:=propext zAa
theorem abT{d x o:Nat}:wop Φ (fl d x o) K σ=af Φ (some d) (.fld (.t x) o 1 false) K σ:=propext zAa
theorem Y2{d x o:Nat}:aM Φ (fl d x o) K σ=ah Φ (some d) (.fld (.t x) o 1 false) K σ:=propext zAa
theorem abO{d x:Nat}:wop Φ (l1 d x) K σ=af Φ (some d) (.ld (.t x) 1 false) K σ:=propext zAa
theorem YX{d x:Nat}:aM Φ (l1 d x) K σ=ah Φ (some d) (.ld (.t x) 1 false) K σ:=propext zAa
theorem abN{d x n:Nat}:wop Φ (la d x n) K σ=af Φ (some d) (.ld (.t x) n true) K σ:=propext zAa
theorem YW{d x n:Nat}:aM Φ (la d x n) K σ=ah Φ (some d) (.ld (.t x) n true) K σ:=propext zAa
theorem abQ{d x i s:Nat}:wop Φ (ia d x i s) K σ=af Φ (some d) (.ia (.t x) (.t i) s) K σ:=propext zAa
theorem YZ{d x i s:Nat}:aM Φ (ia d x i s) K σ=ah Φ (some d) (.ia (.t x) (.t i) s) K σ:=propext zAa
theorem abP{d x i:Nat}:wop Φ (ix d x i) K σ=af Φ (some d) (.ixs (.t x) (.t i)) K σ:=propext zAa
theorem YY{d x i:Nat}:aM Φ (ix d x i) K σ=ah Φ (some d) (.ixs (.t x) (.t i)) K σ:=propext zAa
theorem abF{d x y:Nat}:wop Φ (pa d x y) K σ=af Φ (some d) (.pick (.t x) (.t y) (.v (.bool false))) K σ:=propext zAa
theorem YO{d x y:Nat}:aM Φ (pa d x y) K σ=ah Φ (some d) (.pick (.t x) (.t y) (.v (.bool false))) K σ:=propext zAa
theorem abE{d x y:Nat}:wop Φ (po d x y) K σ=af Φ (some d) (.pick (.t x) (.v (.bool true)) (.t y)) K σ:=propext zAa
theorem YN{d x y:Nat}:aM Φ (po d x y) K σ=ah Φ (some d) (.pick (.t x) (.v (.bool true)) (.t y)) K σ:=propext zAa
theorem abV{d x i:Nat}:wop Φ (ex d x i) K σ=af Φ (some d) (.ext (.t x) i) K σ:=propext zAa
theorem Y4{d x i:Nat}:aM Φ (ex d x i) K σ=ah Φ (some d) (.ext (.t x) i) K σ:=propext zAa
theorem abZ{d x:Nat}:wop Φ (bx d x) K σ=af Φ (some d) (.box (.t x)) K σ:=propext zAa
theorem Y8{d x:Nat}:aM Φ (bx d x) K σ=ah Φ (some d) (.box (.t x)) K σ:=propext zAa
theorem abD{n x y:Nat}:wop Φ (st n x y) K σ=af Φ (none) (.st n (.t x) (.t y)) K σ:=propext zAa
theorem YM{n x y:Nat}:aM Φ (st n x y) K σ=ah Φ (none) (.st n (.t x) (.t y)) K σ:=propext zAa
theorem abY{d f:Nat}{l:List Nat}:wop Φ (ca d f l) K σ=af Φ (some d) (.call f (ts l)) K σ:=propext zAa
theorem Y7{d f:Nat}{l:List Nat}:aM Φ (ca d f l) K σ=ah Φ (some d) (.call f (ts l)) K σ:=propext zAa
theorem abX{d f:Nat}{l:List Nat}:wop Φ (ch d f l) K σ=af Φ (some d) (.callH f (ts l)) K σ:=propext zAa
theorem Y6{d f:Nat}{l:List Nat}:aM Φ (ch d f l) K σ=ah Φ (some d) (.callH f (ts l)) K σ:=propext zAa
theorem abW{d g:Nat}{l:List Nat}:wop Φ (cv d g l) K σ=af Φ (some d) (.callv (.t g) (ts l)) K σ:=propext zAa
theorem Y5{d g:Nat}{l:List Nat}:aM Φ (cv d g l) K σ=ah Φ (some d) (.callv (.t g) (ts l)) K σ:=propext zAa
def skO(o:AOp)(K:St->Prop)(σ:St):Prop:=K (σ.put o.d (.tup []))
theorem Zy{o:AOp}:skO o K σ=K (σ.put o.d (.tup [])):=propext zAa
def un(o:AOp):AOp:=⟨o.d,o.a,none⟩
theorem abR{t:Nat}{o:AOp}:wop Φ (gt t o) K σ=gM (lk σ.r t) true (wop Φ (un o) K) (skO o K) σ:=by
 simp only[gt,Vk];rfl
theorem abS{t:Nat}{o:AOp}:wop Φ (gf t o) K σ=gM (lk σ.r t) false (wop Φ (un o) K) (skO o K) σ:=by
 simp only[gf,Vk];rfl
theorem Y0{t:Nat}{o:AOp}:aM Φ (gt t o) K σ=gM (lk σ.r t) true (aM Φ (un o) K) (skO o K) σ:=by
 simp only[gt,Pj];rfl
theorem Y1{t:Nat}{o:AOp}:aM Φ (gf t o) K σ=gM (lk σ.r t) false (aM Φ (un o) K) (skO o K) σ:=by
 simp only[gf,Pj];rfl
theorem Yn{d:Nat}{a:Act'}:wop Φ (un (o1 d a)) K σ=af Φ (some d) (a) K σ:=propext zAa
theorem UW{d:Nat}{a:Act'}:aM Φ (un (o1 d a)) K σ=ah Φ (some d) (a) K σ:=propext zAa
theorem Yo{a:Act'}:wop Φ (un (o0 a)) K σ=af Φ (none) (a) K σ:=propext zAa
theorem UX{a:Act'}:aM Φ (un (o0 a)) K σ=ah Φ (none) (a) K σ:=propext zAa
theorem abC{d x:Nat}:wop Φ (un (m d x)) K σ=af Φ (some d) (.mov (.t x)) K σ:=propext zAa
theorem YJ{d x:Nat}:aM Φ (un (m d x)) K σ=ah Φ (some d) (.mov (.t x)) K σ:=propext zAa
theorem Yp{d:Nat}{v:V}:wop Φ (un (mv d v)) K σ=af Φ (some d) (.mov (.v v)) K σ:=propext zAa
theorem UY{d:Nat}{v:V}:aM Φ (un (mv d v)) K σ=ah Φ (some d) (.mov (.v v)) K σ:=propext zAa
theorem Yq{d:Nat}{n:Int}:wop Φ (un (mi d n)) K σ=af Φ (some d) (.mov (.v (.int .i64 n))) K σ:=propext zAa
theorem UZ{d:Nat}{n:Int}:aM Φ (un (mi d n)) K σ=ah Φ (some d) (.mov (.v (.int .i64 n))) K σ:=propext zAa
theorem Yr{d:Nat}{b:Bool}:wop Φ (un (mb d b)) K σ=af Φ (some d) (.mov (.v (.bool b))) K σ:=propext zAa
theorem U0{d:Nat}{b:Bool}:aM Φ (un (mb d b)) K σ=ah Φ (some d) (.mov (.v (.bool b))) K σ:=propext zAa
theorem YG{d:Nat}{op:BinOp}{x y:Nat}:wop Φ (un (bt d op x y)) K σ=af Φ (some d) (.bin op (.t x) (.t y)) K σ:=propext zAa
theorem Vf{d:Nat}{op:BinOp}{x y:Nat}:aM Φ (un (bt d op x y)) K σ=ah Φ (some d) (.bin op (.t x) (.t y)) K σ:=propext zAa
theorem YI{d:Nat}{op:BinOp}{x:Nat}{n:Int}:wop Φ (un (bi d op x n)) K σ=af Φ (some d) (.bin op (.t x) (.v (.int .i64 n))) K σ:=propext zAa
theorem Vh{d:Nat}{op:BinOp}{x:Nat}{n:Int}:aM Φ (un (bi d op x n)) K σ=ah Φ (some d) (.bin op (.t x) (.v (.int .i64 n))) K σ:=propext zAa
theorem YF{d:Nat}{op:BinOp}{x:Nat}{n:Int}:wop Φ (un (bu d op x n)) K σ=af Φ (some d) (.bin op (.t x) (.v (.int .u8 n))) K σ:=propext zAa
theorem Ve{d:Nat}{op:BinOp}{x:Nat}{n:Int}:aM Φ (un (bu d op x n)) K σ=ah Φ (some d) (.bin op (.t x) (.v (.int .u8 n))) K σ:=propext zAa
theorem YH{d:Nat}{op:BinOp}{x:Nat}{s:List UInt8}:wop Φ (un (bs d op x s)) K σ=af Φ (some d) (.bin op (.t x) (.v (.str s))) K σ:=propext zAa
theorem Vg{d:Nat}{op:BinOp}{x:Nat}{s:List UInt8}:aM Φ (un (bs d op x s)) K σ=ah Φ (some d) (.bin op (.t x) (.v (.str s))) K σ:=propext zAa
theorem US{d x:Nat}:wop Φ (un (nt' d x)) K σ=af Φ (some d) (.un .not (.t x)) K σ:=propext zAa
theorem SC{d x:Nat}:aM Φ (un (nt' d x)) K σ=ah Φ (some d) (.un .not (.t x)) K σ:=propext zAa
theorem Ys{d x:Nat}:wop Φ (un (ls d x)) K σ=af Φ (some d) (.lens (.t x)) K σ:=propext zAa
theorem U1{d x:Nat}:aM Φ (un (ls d x)) K σ=ah Φ (some d) (.lens (.t x)) K σ:=propext zAa
theorem Yt{d x:Nat}:wop Φ (un (lq d x)) K σ=af Φ (some d) (.lenq (.t x)) K σ:=propext zAa
theorem U2{d x:Nat}:aM Φ (un (lq d x)) K σ=ah Φ (some d) (.lenq (.t x)) K σ:=propext zAa
theorem Yz{d x o:Nat}:wop Φ (un (fa d x o)) K σ=af Φ (some d) (.fa (.t x) o) K σ:=propext zAa
theorem U8{d x o:Nat}:aM Φ (un (fa d x o)) K σ=ah Φ (some d) (.fa (.t x) o) K σ:=propext zAa
theorem Yy{d x o:Nat}:wop Φ (un (fl d x o)) K σ=af Φ (some d) (.fld (.t x) o 1 false) K σ:=propext zAa
theorem U7{d x o:Nat}:aM Φ (un (fl d x o)) K σ=ah Φ (some d) (.fld (.t x) o 1 false) K σ:=propext zAa
theorem Yv{d x:Nat}:wop Φ (un (l1 d x)) K σ=af Φ (some d) (.ld (.t x) 1 false) K σ:=propext zAa
theorem U4{d x:Nat}:aM Φ (un (l1 d x)) K σ=ah Φ (some d) (.ld (.t x) 1 false) K σ:=propext zAa
theorem Yu{d x n:Nat}:wop Φ (un (la d x n)) K σ=af Φ (some d) (.ld (.t x) n true) K σ:=propext zAa
theorem U3{d x n:Nat}:aM Φ (un (la d x n)) K σ=ah Φ (some d) (.ld (.t x) n true) K σ:=propext zAa
theorem Yx{d x i s:Nat}:wop Φ (un (ia d x i s)) K σ=af Φ (some d) (.ia (.t x) (.t i) s) K σ:=propext zAa
theorem U6{d x i s:Nat}:aM Φ (un (ia d x i s)) K σ=ah Φ (some d) (.ia (.t x) (.t i) s) K σ:=propext zAa
theorem Yw{d x i:Nat}:wop Φ (un (ix d x i)) K σ=af Φ (some d) (.ixs (.t x) (.t i)) K σ:=propext zAa
theorem U5{d x i:Nat}:aM Φ (un (ix d x i)) K σ=ah Φ (some d) (.ixs (.t x) (.t i)) K σ:=propext zAa
theorem Ym{d x y:Nat}:wop Φ (un (pa d x y)) K σ=af Φ (some d) (.pick (.t x) (.t y) (.v (.bool false))) K σ:=propext zAa
theorem UV{d x y:Nat}:aM Φ (un (pa d x y)) K σ=ah Φ (some d) (.pick (.t x) (.t y) (.v (.bool false))) K σ:=propext zAa
theorem Yl{d x y:Nat}:wop Φ (un (po d x y)) K σ=af Φ (some d) (.pick (.t x) (.v (.bool true)) (.t y)) K σ:=propext zAa
theorem UU{d x y:Nat}:aM Φ (un (po d x y)) K σ=ah Φ (some d) (.pick (.t x) (.v (.bool true)) (.t y)) K σ:=propext zAa
theorem YA{d x i:Nat}:wop Φ (un (ex d x i)) K σ=af Φ (some d) (.ext (.t x) i) K σ:=propext zAa
theorem U9{d x i:Nat}:aM Φ (un (ex d x i)) K σ=ah Φ (some d) (.ext (.t x) i) K σ:=propext zAa
theorem YE{d x:Nat}:wop Φ (un (bx d x)) K σ=af Φ (some d) (.box (.t x)) K σ:=propext zAa
theorem Vd{d x:Nat}:aM Φ (un (bx d x)) K σ=ah Φ (some d) (.box (.t x)) K σ:=propext zAa
theorem Yk{n x y:Nat}:wop Φ (un (st n x y)) K σ=af Φ (none) (.st n (.t x) (.t y)) K σ:=propext zAa
theorem UT{n x y:Nat}:aM Φ (un (st n x y)) K σ=ah Φ (none) (.st n (.t x) (.t y)) K σ:=propext zAa
theorem YD{d f:Nat}{l:List Nat}:wop Φ (un (ca d f l)) K σ=af Φ (some d) (.call f (ts l)) K σ:=propext zAa
theorem Vc{d f:Nat}{l:List Nat}:aM Φ (un (ca d f l)) K σ=ah Φ (some d) (.call f (ts l)) K σ:=propext zAa
theorem YC{d f:Nat}{l:List Nat}:wop Φ (un (ch d f l)) K σ=af Φ (some d) (.callH f (ts l)) K σ:=propext zAa
theorem Vb{d f:Nat}{l:List Nat}:aM Φ (un (ch d f l)) K σ=ah Φ (some d) (.callH f (ts l)) K σ:=propext zAa
theorem YB{d g:Nat}{l:List Nat}:wop Φ (un (cv d g l)) K σ=af Φ (some d) (.callv (.t g) (ts l)) K σ:=propext zAa
theorem Va{d g:Nat}{l:List Nat}:aM Φ (un (cv d g l)) K σ=ah Φ (some d) (.callv (.t g) (ts l)) K σ:=propext zAa
theorem d_o1{d:Nat}{a:Act'}:(o1 d a).d=some d:=rfl
theorem d_o0{a:Act'}:(o0 a).d=none:=rfl
theorem d_m{d x:Nat}:(m d x).d=some d:=rfl
theorem d_mv{d:Nat}{v:V}:(mv d v).d=some d:=rfl
theorem d_mi{d:Nat}{n:Int}:(mi d n).d=some d:=rfl
theorem d_mb{d:Nat}{b:Bool}:(mb d b).d=some d:=rfl
theorem d_bt{d:Nat}{op:BinOp}{x y:Nat}:(bt d op x y).d=some d:=rfl
theorem d_bi{d:Nat}{op:BinOp}{x:Nat}{n:Int}:(bi d op x n).d=some d:=rfl
theorem d_bu{d:Nat}{op:BinOp}{x:Nat}{n:Int}:(bu d op x n).d=some d:=rfl
theorem d_bs{d:Nat}{op:BinOp}{x:Nat}{s:List UInt8}:(bs d op x s).d=some d:=rfl
theorem d_ntp{d x:Nat}:(nt' d x).d=some d:=rfl
theorem d_ls{d x:Nat}:(ls d x).d=some d:=rfl
theorem d_lq{d x:Nat}:(lq d x).d=some d:=rfl
theorem d_fa{d x o:Nat}:(fa d x o).d=some d:=rfl
theorem d_fl{d x o:Nat}:(fl d x o).d=some d:=rfl
theorem d_l1{d x:Nat}:(l1 d x).d=some d:=rfl
theorem d_la{d x n:Nat}:(la d x n).d=some d:=rfl
theorem d_ia{d x i s:Nat}:(ia d x i s).d=some d:=rfl
theorem d_ix{d x i:Nat}:(ix d x i).d=some d:=rfl
theorem d_pa{d x y:Nat}:(pa d x y).d=some d:=rfl
theorem d_po{d x y:Nat}:(po d x y).d=some d:=rfl
theorem d_ex{d x i:Nat}:(ex d x i).d=some d:=rfl
theorem d_bx{d x:Nat}:(bx d x).d=some d:=rfl
theorem d_st{n x y:Nat}:(st n x y).d=none:=rfl
theorem d_ca{d f:Nat}{l:List Nat}:(ca d f l).d=some d:=rfl
theorem d_ch{d f:Nat}{l:List Nat}:(ch d f l).d=some d:=rfl
theorem d_cv{d g:Nat}{l:List Nat}:(cv d g l).d=some d:=rfl
theorem d_un{o:AOp}:(un o).d=o.d:=rfl
theorem W_Q1{a:AC}:W Φ (Q [a]) Q' σ=W Φ a Q' σ:=propext zAa
theorem W_Q2{a b:AC}{l:List AC}:W Φ (Q (a::b::l)) Q' σ=W Φ a (Ex.then (W Φ (Q (b::l)) Q') Q') σ:=propext zAa
theorem W_C{c:Nat}{a b:AC}:W Φ (C c a b) Q' σ=cM (lk σ.r c) (W Φ a Q') (W Φ b Q') σ:=propext zAa
end
attribute [simp] Zy abR abS Y0 Y1 W_Q1 W_Q2 W_C abG YP Yn UW abH YQ Yo UX wop_m ab5 abC YJ abI YR Yp UY abJ YS Yq UZ abK YT Yr U0 ab1 Za YG Vf ab3 Zc YI Vh ab0 Y9 YF Ve ab2 Zb YH Vg YK Vm US SC abL YU Ys U1 abM YV Yt U2 abU Y3 Yz U8 abT Y2 Yy U7 abO YX Yv U4 abN YW Yu U3 abQ YZ Yx U6 abP YY Yw U5 abF YO Ym UV abE YN Yl UU abV Y4 YA U9 abZ Y8 YE Vd abD YM Yk UT abY Y7 YD Vc abX Y6 YC Vb abW Y5 YB Va
attribute [simp] Cn_p Cn_n Cn_e ts d_o1 d_o0 d_m d_mv d_mi d_mb d_bt d_bi d_bu d_bs d_ntp d_ls d_lq d_fa d_fl d_l1 d_la d_ia d_ix d_pa d_po d_ex d_bx d_st d_ca d_ch d_cv d_un
end Go.Abs
end
section
namespace Go.Abs
open Go.RowKit
def Rv(rs:List RV)(r:V):Ex->St->Prop:=fun e σ=>(match e with
    | .exit _=>False
    | .goto _=>False
    |_=>True)/\match σ.rvs rs with
    |some vs=>∃ms F ws,σ.pl?=some ms/\gS (frz ms F) vs=some ws/\gp ws=r
    |none=>False
section
variable{P:Program}
theorem FnE.of_WQ{f:FuncId}{fn:Func}{c:Code}{us:List V}{r:V}{x:AC}{rs:List RV}(hm:P.follows .mixedOrders=true)(hf:P.funcs[f]?=some fn)(hb:fn.body=some c)
 (hn:(fn.name == "runtime.NumGoroutine")=false) (hc:LC P fn.ntmps [] c x) (hr:xm P fn.results.toList=some rs) (hs:us.length<=fn.ntmps)
 (hW:oks us->W (Cn P) x (Rv rs r) ⟨ent 0 us,[some (.pool [])]⟩):FnE P f us r where
 call:=fun args w=>by
  unfold callFunc;simp only[beq_eq_false_iff_ne,ne_eq]at hn;simp[Sem.run_bind,hf,hb,hn]
 does:=fun M w cs hM hus=>by
  have hl:cs.size=us.length:=by have:=aF hus;simpa using this
  refine calls_of_wp hf hb ?_
  have H:Rel fn.ntmps M ⟨w.heap.size,fun _=>False,[],#[],w.heap.size,noJ,[],fun _ _ _ _ _ _=>False⟩ w ⟨fun _=>undef,fun _ _=>undef,fun _ _=>False,fun _=>none⟩ M ⟨ent 0 us,[some (.pool [])]⟩ { tmps:=cs++zAh (fn.ntmps-cs.size) undef,defers:=[] } w:=
   { dfr:=rfl,jst:=kM rfl,pin:=fun i hi=>by cases hi
     size:=by simp;omega
     regs:=fun t v ht=>by
      obtain⟨_,h2⟩:=xV ht;simp only[zCd]at h2;have hlt:t<us.length:=(zAf.1 h2).1;obtain⟨c,h3,h4⟩:=cw hus h2;refine⟨by omega,c,?_,az (fun _ _ h=>h) (fun _ _ h=>h.elim) _ _ h4⟩
      rw[zAj (by omega)]
      simpa using h3
     heap:=fun id ob h=>by
      cases id with
      |succ id=>simp at h
      |zero=>
        simp at h;subst h;simp only[aH];exact⟨trivial,fun j m hm=>by simp at hm,fun i j m m' g hm=>by simp at hm,fun g hg=>hg.elim,fun g=>⟨fun h=>h.elim,fun⟨j,m,hm,_⟩=>by simp at hm⟩,fun k j n i off c h=>h.elim⟩
     inj:=fun i j oi oj g h h' hg=>hg.elim
     snd:=hM.snd
     sep:=fun p v _ id ob h hg=>hg
     sub:=⟨fun _ _ h=>h,fun _ _ h=>(by cases h),fun _ _ h=>(by cases h),zCb _,hM.gl⟩
     new:=fun _ _ h=>.inl h
     base:=rfl
     blw:=Und.refl _ _ }
  refine vd (oG hm (kN rfl) (B:=⟨w.heap.size,fun _=>False,[],#[],w.heap.size,noJ,[],fun _ _ _ _ _ _=>False⟩) hc ?_ H (hW (dz hus)));intro e κ M1 σ a w1 hR H1;simp only[Rv]at hR;obtain⟨he,hR⟩:=hR;split at hR
  ·rename_i vs hvs
   obtain⟨ms,F,ws,hms,hws,hR⟩:=hR
   ·have hp:=bW hms
    obtain⟨ds,k1,k2⟩:=iR hr H1 hvs;obtain⟨H2,hM1⟩:=H1.kill [0] (fun id hid=>by simp at hid;subst hid;exact⟨_,hp⟩)
    have k3:ae (ext M1 w1 (hO κ [0])) NX ws ds:=Of H1 hp hM1 hws k1
    have fin:bodyPost P fn (fun e w'=>∃(c:Value)(M':Mem),e=.returned c/\rep M' NX r c/\Below w.heap.size w w'/\(∀p v,M' p=some v->w'.cell? p=some v)/\
     (∀p v,M p=some v->M' p=some v)/\∀p v,M' p=some v->M p=some v\/w.heap.size<=p.block) .normal a w1:=by
     refine⟨H1.dfr,_,k2,_,_,rfl,?_,⟨H1.blw.os,H1.blw.tape,H1.blw.output,H1.blw.size,fun k hk=>H1.blw.block k hk id⟩,H2.snd,H2.sub.sub,fun p v h=>(H2.new p v h).imp_right fun h=>h.elim id False.elim⟩;subst hR
     match ws,ds,k3 with
     |[],[],k3=>simp only[gp,rep];exact⟨#[],rfl,by simp[ae]⟩
     |[v],[d],k3=>
       simp only[ae]at k3;obtain⟨_,_,h1,h2,_⟩:=k3;cases h1;simpa[gp]using h2
     |v::v'::vs',d::d'::ds',k3=>
       have e:(if h:(d::d'::ds').length=1 then(d::d'::ds')[0]else .tuple (d::d'::ds').toArray)=.tuple (d::d'::ds').toArray:=dif_neg (by simp)
       rw[e];simp only[gp,rep];exact⟨_,rfl,by simpa using k3⟩
     |[],d::ds,k3=>simp[ae]at k3
     |v::vs,[],k3=>simp[ae]at k3
     |[v],d::d'::ds,k3=>simp[ae]at k3
     |v::v'::vs,[d],k3=>
       simp only[ae]at k3;obtain⟨c,cs',h1,_,c2,cs2,h2,_⟩:=k3;cases h1;cases h2
    cases e with
    |norm=>exact fin
    |ret=>exact fin
    |exit id=>exact he.elim
    |goto l=>exact he.elim
  ·exact hR.elim
theorem FnE.of_imageQ{f:FuncId}{fn:Func}{E:List Nat}{us:List V}{r:V}{x:AC}{K:List (List Nat)}{rs:List RV}{n:Nat}(hm:P.follows .mixedOrders=true)(hf:P.funcs[f]?=some fn)
 (hi:au P fn [] E K n=some (x,rs)) (hn:us.length=n) (hW:oks us->W (Cn P) x (Rv rs r) ⟨ent 0 us,[some (.pool [])]⟩):FnE P f us r:=by
 unfold au at hi;split at hi
 ·split at hi
  ·split at hi
   ·rename_i hc
    cases hi;exact FnE.of_WQ hm hf ‹_› hc.1 (dY ‹_›) ‹_› (by rw[hn];exact hc.2.1) hW
   ·cases hi
  ·cases hi
 ·cases hi
end
def RU(r:V)(σ:St)(vs:List V):Prop:=∃ms F ws,σ.pl?=some ms/\gS (frz ms F) vs=some ws/\gp ws=r
theorem UG{rs:List RV}{r:V}{σ:St}:Rv rs r .norm σ=oM (σ.rvs rs) (RU r σ):=by
 unfold Rv oM;cases σ.rvs rs<;>simp[RU]
theorem X6{rs:List RV}{r:V}{σ:St}:Rv rs r .ret σ=oM (σ.rvs rs) (RU r σ):=by
 unfold Rv oM;cases σ.rvs rs<;>simp[RU]
attribute [simp] UG X6
end Go.Abs
end
