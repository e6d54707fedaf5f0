/-
  From the model's code to that of the abstract machine: what 'W' says of the image holds of the code. No condition.
  Operations in any order: what an operation looks at and what it turns, and that two that are apart may change places. No condition.
  Regions whose order is drawn, and whole code: what 'W' says of the image holds of the code. No condition.
  The image of a function's code, reckoned; and a function's contract from what 'W' says of the image. No condition.
  What 'simp' is told of the abstract machine: it goes through code step by step, and looks at nothing that lies ahead. No condition.
  Short words for the abstract machine's code. No condition.
  Functions that make a pool of their own, and hand back plain data. No condition.
-/
import Derived.Test.YtnnbodoijkbceaaGreatDoorLAbs7
import Derived.Deep.LoopGhost
import Derived.ScopeJumps
set_option linter.all false
set_option maxHeartbeats 0
section
namespace Go.Abs
open Go.RowKit
section
variable {P:Program} {N:Nat} {M0:Mem} {B:Bas} {w0:World} {κ:Kap} {M:Mem} {σ:St} {a:Act} {w w':World}
theorem Rel.nilRow (H:Rel N M0 B w0 κ M σ a w) {ms:List Po} {e sz:Nat} (hp:σ.h[0]?=some (some (.pool ms))) (hsz:0 < sz):∃ κ',κ'.row 0 ms.length=.slice none 0 0∧Rel N M0 B w0 κ' M (σ.setP (ms++[.rw e sz []])) a w∧
 (∀ v c,XX κ σ.h v c→XX κ' (σ.setP (ms++[.rw e sz []])).h v c)∧rep M (XX κ' (σ.setP (ms++[.rw e sz []])).h) (.q 1 ms.length 0 0 0) (.slice none 0 0):=by
 obtain ⟨κ',e2,H',hX⟩:=H.addMem (m':=.rw e sz []) hp (kv:=.slice none 0 0) (Below.refl _ _) (fun g hg=>by cases hg) (fun κ' X er hX=>by
  simp only [dX]
  exact ⟨hsz,by simp,[],by rw [er]; exact World.ownsRow_nil w 0 e sz,by simp [au]⟩)
 have hget:(ms++[Po.rw e sz []])[ms.length]?=some (.rw e sz []):=by simp
 exact ⟨κ',e2,H',hX,iH (cZ hp) rfl (by
  simp only [qAt,hget,e2]
  exact ⟨fun _=>⟨by simp,fun _=>trivial⟩,fun h=>by simp at h⟩)⟩
theorem Rel.mat (H:Rel N M0 B w0 κ M σ a w) {m:Mat} {σ':St} (h:σ.mat m=some σ'):∃ κ' M',Rel N M0 B w0 κ' M' σ' a w:=by
 cases m with
 | r t e sz=>
   simp only [St.mat] at h
   split at h
   · rename_i sz0 hlk
     split at h
     · rename_i hsz
       cases h
       have ho:aB (upd κ σ.h.length (.slice none 0 0)) M (XX (upd κ σ.h.length (.slice none 0 0)) (σ.h++[some (Ob.arr e sz [])])) B w σ.h.length (.arr e sz []):=by
        simp only [aB]
        exact ⟨hsz,by simp,[],by rw [b4]; exact World.ownsRow_nil w 0 e sz,by simp [al],fun g hg=>(by rw [aE] at hg; cases hg),fun g=>by rw [aE,aT]⟩
       have H':=H.newOb (Below.refl _ _) (kv:=.slice none 0 0) (fun g hg=>by cases hg) ho
       refine ⟨_,_,{ dfr:=H'.dfr,jst:=H'.jst,pin:=H'.pin,size:=H'.size,regs:=?_,heap:=H'.heap,inj:=H'.inj,snd:=H'.snd,sep:=H'.sep,sub:=H'.sub,new:=H'.new,base:=H'.base,blw:=H'.blw }⟩
       intro t' v hv
       simp only [lk] at hv
       split at hv
       · rename_i he
         subst he
         cases hv
         obtain ⟨h1,c,h2,h3⟩:=H.regs _ _ hlk
         simp only [rep] at h3
         refine ⟨h1,c,h2,?_⟩
         simp only [rep,XX]
         rw [h3.1]
         refine ⟨rfl,by simp,fun e2 sz2 l2 h2=>?_,fun e2 sz2 l2 l3 h2=>by simp at h2,fun o2 h2 hn=>by simp at h2; subst h2; cases hn⟩
         simp at h2
         obtain ⟨rfl,rfl,rfl⟩:=h2
         exact ⟨by simp,fun _=>b4.symm⟩
       · exact H'.regs t' v hv
     · cases h
   · cases h
 | b id off e sz=>
   simp only [St.mat] at h
   split at h
   · rename_i cs hcs
     split at h
     · rename_i sz0 hoff
       split at h
       · rename_i hsz
         cases h
         have ho:aB (upd κ σ.h.length (.slice none 0 0)) M (XX (upd κ σ.h.length (.slice none 0 0)) (σ.h++[some (Ob.arr e sz [])])) B w σ.h.length (.arr e sz []):=by
          simp only [aB]
          exact ⟨hsz,by simp,[],by rw [b4]; exact World.ownsRow_nil w 0 e sz,by simp [al],fun g hg=>(by rw [aE] at hg; cases hg),fun g=>by rw [aE,aT]⟩
         have H':=H.newOb (Below.refl _ _) (kv:=.slice none 0 0) (fun g hg=>by cases hg) ho
         have hb:=fF hcs
         have hlt:id < σ.h.length:=(List.getElem?_eq_some_iff.1 hb).1
         have hb':(σ.h++[some (Ob.arr e sz [])])[id]?=some (some (.box cs)):=by rw [List.getElem?_append_left hlt]; exact hb
         obtain ⟨b,arr,T,h1,h2,h3,h4,h5,h6⟩:=H'.heap id _ hb'
         let κ1:=upd κ σ.h.length (.slice none 0 0)
         have hX:∀ u c,XX κ1 (σ.h++[some (Ob.arr e sz [])]) u c→XX (upd κ1 id (κ1 id)) ((σ.h++[some (Ob.arr e sz [])]).set id (some (Ob.box (cs.set off (.ref σ.h.length 0))))) u c:=fun u c hx=>fA hb' hx (fun _ _=>⟨⟨cs,rfl⟩,rfl⟩) (fun _ _ _ h=>by cases h) (fun _ _ _ _ h=>by cases h)
         have H2:=H'.setOb hb' (ob:=.box (cs.set off (.ref σ.h.length 0))) (kv:=κ1 id) (Und.refl _ _) (fun _ _ _=>rfl) (fun g hg=>.inl ((h6 g).2 (by rw [h1] at hg; cases hg; rfl))) hX (by
          simp only [aB]
          refine ⟨b,arr,T,by rw [b4]; exact h1,h2,h3,?_,h5,fun g=>by rw [aE,h1]; simp only [blk,Option.some.injEq]; exact eq_comm⟩
          obtain ⟨c,g1,g2⟩:=bN (aD (fun _ _ h=>h) hX _ _ h4) hoff
          simp only [rep] at g2
          have hs:=n7 off (aD (fun _ _ h=>h) hX _ _ h4) (v:=.ref σ.h.length 0) (c:=c) (by
           simp only [rep,XX]
           rw [g2.1]
           refine ⟨rfl,by simp,fun e2 sz2 l2 h2=>?_,fun e2 sz2 l2 l3 h2=>by rw [List.getElem?_set_ne (by omega)] at h2; simp at h2,fun o2 h2 hn=>by rw [List.getElem?_set_ne (by omega)] at h2; simp at h2; subst h2; cases hn⟩
           rw [List.getElem?_set_ne (by omega)] at h2
           simp at h2
           obtain ⟨rfl,rfl,rfl⟩:=h2
           refine ⟨by simp,fun _=>?_⟩
           rw [Iu (by omega)]
           exact b4.symm)
          have:arr.toList.set off c=arr.toList:=by
           apply List.ext_getElem?
           intro j
           rw [List.getElem?_set]
           split
           · rename_i he; subst he
             split
             · exact g1.symm
             · rename_i hn; rw [List.getElem?_eq_none (by omega)]
           · rfl
          rwa [this] at hs)
         refine ⟨upd κ1 id (κ1 id),M,?_⟩
         have e1:(σ.h++[some (Ob.arr e sz [])]).set id (some (Ob.box (cs.set off (.ref σ.h.length 0))))=σ.h.set id (some (Ob.box (cs.set off (.ref σ.h.length 0))))++[some (Ob.arr e sz [])]:=by
          rw [List.set_append_left _ _ hlt]
         rw [←e1]
         exact H2
       · cases h
     · cases h
   · cases h
 | z t=>
   simp only [St.mat] at h
   split at h
   · rename_i v hv
     split at h
     · rename_i u hu
       cases h
       obtain ⟨H2,hM1⟩:=H.kill (aw v) (DV hu)
       obtain ⟨h1,c,h2,h3⟩:=H.regs t v hv
       have k3:rep (ext M w (gk κ (aw v))) NX u c:=by
        refine jO H hM1 (fun id hid g hg p hpb=>?_) h3 hu
        unfold ext
        rw [if_pos (cF.2 ⟨id,hid,by rw [hpb]; exact hg⟩)]
       refine ⟨κ,_,{ dfr:=H2.dfr,jst:=H2.jst,pin:=H2.pin,size:=H2.size,regs:=?_,heap:=H2.heap,inj:=H2.inj,snd:=H2.snd,sep:=H2.sep,sub:=H2.sub,new:=H2.new,base:=H2.base,blw:=H2.blw }⟩
       intro t' v' hv'
       simp only [lk] at hv'
       split at hv'
       · rename_i he
         subst he
         cases hv'
         exact ⟨h1,c,h2,az k3⟩
       · exact H2.regs t' v' (by rw [(lG _ _).1]; exact hv')
     · cases h
   · cases h
 | q t e sz=>
   simp only [St.mat] at h
   split at h
   · rename_i sz0 ms hlk hms
     split at h
     · rename_i hsz
       cases h
       obtain ⟨κ',e1,H',hX,hq⟩:=H.nilRow (e:=e) (bk hms) hsz
       refine ⟨κ',M,{ dfr:=H'.dfr,jst:=H'.jst,pin:=H'.pin,size:=H'.size,regs:=?_,heap:=H'.heap,inj:=H'.inj,snd:=H'.snd,sep:=H'.sep,sub:=H'.sub,new:=H'.new,base:=H'.base,blw:=H'.blw }⟩
       intro t' v hv
       simp only [lk] at hv
       split at hv
       · rename_i he
         subst he
         cases hv
         obtain ⟨h1,c,h2,h3⟩:=H.regs _ _ hlk
         simp only [rep] at h3
         exact ⟨h1,c,h2,by rw [h3.1]; exact hq⟩
       · exact H'.regs t' v hv
     · cases h
   · cases h
 | qb id off e sz=>
   simp only [St.mat] at h
   split at h
   · rename_i cs ms hcs hms
     split at h
     · rename_i sz0 hoff
       split at h
       · rename_i hsz
         cases h
         obtain ⟨κ',e1,H',hX,hq⟩:=H.nilRow (e:=e) (bk hms) hsz
         have hb:=fF hcs
         have h0:id≠0:=fun e=>by subst e; rw [bk hms] at hb; cases hb
         obtain ⟨κ2,H2,_⟩:=H'.reCell (id:=id) (off:=off) (cs:=cs) (v':=.q 1 ms.length 0 0 0) (by rw [PA,List.getElem?_set_ne (Ne.symm h0)]; exact hb) hoff (fun c hc=>by
          simp only [rep] at hc
          rw [hc.1]
          exact hq)
         exact ⟨κ2,M,H2⟩
       · cases h
     · cases h
   · cases h
theorem Rel.mats:∀ {ms:List Mat} {σ σ':St} {κ:Kap} {M:Mem},Rel N M0 B w0 κ M σ a w→σ.mats ms=some σ'→∃ κ' M',Rel N M0 B w0 κ' M' σ' a w
 | [],σ,σ',κ,M,H,h=>by simp only [St.mats] at h; cases h; exact ⟨κ,M,H⟩
 | m::ms,σ,σ',κ,M,H,h=>by
   simp only [St.mats] at h
   split at h
   · rename_i σ1 h1
     obtain ⟨κ1,M1,H1⟩:=H.mat h1
     exact Rel.mats H1 h
   · cases h
theorem Rel.nrm (H:Rel N M0 B w0 κ M σ a w) (ks:List Nat):∃ κ',Rel N M0 B w0 κ' M (σ.nrm ks) a w:=by
 unfold St.nrm
 exact ⟨_,H.ren (bp _ _ (bp _ _ (bp _ _ iL))) yg _ (fun t v h=>B5 h)⟩
structure LO (P:Program) (N:Nat) (ps:List Nat) (ops:Array Oper) (o:Oper) (x:AOp):Prop where
 dst:x.d=o.dst
 lt:∀ t,o.dst=some t→t < N∧t ∉ ps
 act:LV P o.type o.op x.a∨LE P o.type o.op x.a∨x.a=.bad
 grd:(o.guard=none∧x.g=none)∨∃ j b oj t,o.guard=some (j,b)∧ops[j]?=some oj∧oj.dst=some t∧x.g=some (t,b)
theorem Ry {ty:TypeId} {op:Op} {act:Act'} (h:LV P ty op act) (Φ:Ctr) (d:Option Nat) (K:St→Prop) (σ:St):ae Φ d act K σ=match σ.val act with
 | some v=>K (σ.put d v)
 | none=>False:=by cases h<;>rfl
theorem rC (hJC:fj P M0 B) {ρ:Option Nat} (H:Rel N M0 B w0 κ M σ a w) {ops:Array Oper} {o:Oper} {x:AOp} (hl:LO P N B.ps ops o x) {K:St→Prop} (hW:ae (Cn P) x.d x.a K σ)
 {Nx:Act→World→Prop} (hK:∀ κ' M' σ' a' w',K σ'→Rel N M0 B w0 κ' M' σ' a' w'→Nx a' w') {Q:Exit→Act→World→Prop}:o.wpIn (FR ρ) 0 P a w Nx Q:=by
 have hd:∀ t,x.d=some t→t < N∧t ∉ B.ps:=by rw [hl.dst]; exact hl.lt
 rcases hl.act with h | h | h
 · rw [Ry h] at hW
   split at hW
   · rename_i v hv
     obtain ⟨c,hr,hc⟩:=F4 H h hv o rfl rfl
     refine E9 ?_ (RD h)
     unfold Oper.wp
     rw [hr,Oper.upon_value,←hl.dst]
     exact hK _ _ _ _ _ hW (H.put' hd hc)
   · exact hW.elim
 · by_cases hy:∃ g xs,x.a=.yld g xs
   · obtain ⟨g,xs,hy⟩:=hy
     rw [hy] at h hW
     exact FO hJC H h hd hW hK o rfl hl.dst.symm
   · exact E9 (Hf hJC H h (fun g xs e=>hy ⟨g,xs,e⟩) hd hW hK o rfl rfl hl.dst.symm) (KS h)
 · rw [h] at hW
   simp only [ae,St.val] at hW
theorem BI (hJC:fj P M0 B) {ρ:Option Nat} (H:Rel N M0 B w0 κ M σ a w) {ops:Array Oper} {o:Oper} {x:AOp} (hl:LO P N B.ps ops o x) {K:St→Prop} (hW:wop (Cn P) x K σ)
 {Nx:Act→World→Prop} (hK:∀ κ' M' σ' a' w',K σ'→Rel N M0 B w0 κ' M' σ' a' w'→Nx a' w') {Q:Exit→Act→World→Prop}:
 if Region.wanted o (yielded ops a.tmps) then o.wpIn (FR ρ) 0 P a w Nx Q else Nx (a.put o.dst undef) w:=by
 have hd:∀ t,x.d=some t→t < N∧t ∉ B.ps:=by rw [hl.dst]; exact hl.lt
 have hu:K (σ.put x.d (.tup []))→Nx (a.put o.dst undef) w:=fun h=>by
  rw [←hl.dst]
  exact hK _ _ _ _ _ h (H.undef hd)
 unfold wop at hW
 rcases hl.grd with ⟨h1,h2⟩ | ⟨j,b,oj,t,h1,h2,h3,h4⟩
 · rw [h2] at hW
   have:Region.wanted o (yielded ops a.tmps)=true:=by simp [Region.wanted,h1]
   rw [if_pos this]
   exact rC hJC H hl hW hK
 · rw [h4] at hW
   simp only at hW
   split at hW
   · rename_i y hy
     obtain ⟨_,c,g1,g2⟩:=H.regs t _ hy
     have hc:=fJ g2
     subst hc
     have hyl:yielded ops a.tmps j=some y:=by simp [yielded,h2,h3,g1]
     have hw:Region.wanted o (yielded ops a.tmps)=decide (y=b):=by
      cases y<;>cases b<;>simp [Region.wanted,h1,hyl]
     rw [hw]
     cases y<;>cases b<;>simp [Br] at hW ⊢
     · exact rC hJC H hl hW hK
     · exact hu hW
     · exact hu hW
     · exact rC hJC H hl hW hK
   · rename_i hy
     obtain ⟨_,c,g1,g2⟩:=H.regs t _ hy
     simp only [rep,ac] at g2
     obtain ⟨arr,rfl,g3⟩:=g2
     have hyl:yielded ops a.tmps j=none:=by simp [yielded,h2,h3,g1]
     have hw:¬Region.wanted o (yielded ops a.tmps)=true:=by simp [Region.wanted,h1,hyl]
     rw [if_neg hw]
     exact hu hW
   · exact hW.elim
inductive LOs (P:Program) (N:Nat) (ps:List Nat) (ops:Array Oper):List Oper→List AOp→Prop
 | nil:LOs P N ps ops [] []
 | cons {o os x xs}:LO P N ps ops o x→LOs P N ps ops os xs→LOs P N ps ops (o::os) (x::xs)
theorem yl (hJC:fj P M0 B) {ρ:Option Nat} {ops:Array Oper} {Q:Exit→Act→World→Prop} {K:St→Prop} (hK:∀ κ' M' σ' a' w',K σ'→Rel N M0 B w0 κ' M' σ' a' w'→Q .normal a' w'):
 ∀ {os:List Oper} {xs:List AOp},LOs P N B.ps ops os xs→∀ {κ:Kap} {M:Mem} {σ:St} {a:Act} {w:World},Rel N M0 B w0 κ M σ a w→qM (Cn P) xs K σ→wpListIn (FR ρ) 0 P ops Q os a w
 | _,_,.nil,_,_,_,_,_,H,hW=>hK _ _ _ _ _ hW H
 | _,_,.cons hl hs,_,_,_,_,_,H,hW=>by
   refine wpListIn_step fun K' hK'=>?_
   have:=BI hJC (ρ:=ρ) H hl hW (Q:=Q) (fun κ' M' σ' a' w' hk H'=>hK' _ _ (yl hJC hK hs H' hk))
   split
   · rename_i hw; rw [if_pos hw] at this; exact this
   · rename_i hw; rw [if_neg hw] at this; exact ⟨fun _ _=>trivial,this⟩
end
end Go.Abs
end
section
namespace Go.Abs
def AO.rd:AO→List Nat
 | .t n=>[n]
 | .v _=>[]
def rdo:Option AO→List Nat
 | none=>[]
 | some x=>x.rd
def rdl:List AO→List Nat
 | []=>[]
 | x::xs=>x.rd++rdl xs
def rdp:List (Nat × Nat × AO)→List Nat
 | []=>[]
 | (_,_,x)::ps=>x.rd++rdp ps
def Act'.rds:Act'→List Nat
 | .mov x=>x.rd
 | .pick c a b=>c.rd++(a.rd++b.rd)
 | .fld x _ _ _=>x.rd
 | .fa x _=>x.rd
 | .ia x i _=>x.rd++i.rd
 | .iaa x i _ _=>x.rd++i.rd
 | .ld x _ _=>x.rd
 | .ixs x i=>x.rd++i.rd
 | .ixa x i _ _ _=>x.rd++i.rd
 | .bin _ x y=>x.rd++y.rd
 | .un _ x=>x.rd
 | .cii _ x=>x.rd
 | .r2s x=>x.rd
 | .s2b x=>x.rd
 | .b2s x=>x.rd
 | .sls x lo hi=>x.rd++(rdo lo++rdo hi)
 | .slq x lo hi _=>x.rd++(rdo lo++rdo hi)
 | .lens x=>x.rd
 | .lenq x=>x.rd
 | .beq _ x y=>x.rd++y.rd
 | .ext x _=>x.rd
 | .bld _ ps=>rdp ps
 | .lit _ _ xs=>rdl xs
 | .ltr _ _ xs=>rdl xs
 | .mkf _ a b=>rdl a++rdl b
 | .nlc x=>x.rd
 | .alc _=>[]
 | .box x=>x.rd
 | .st _ a x=>a.rd++x.rd
 | .app x y _ _ _=>x.rd++y.rd
 | .mks _ _ _ _ n=>n.rd
 | .mkm _ _ _ _ n=>n.rd
 | .mk0 _ _ _ n=>n.rd
 | .call _ xs=>rdl xs
 | .callv g xs=>g.rd++rdl xs
 | .callH _ xs=>rdl xs
 | .mki _ x=>x.rd
 | .tya _ _ _ x=>x.rd
 | .aeq _ _ x y=>x.rd++y.rd
 | .mkp _=>[]
 | .lkp _ _ _ x k=>x.rd++k.rd
 | .mup _ x k v=>x.rd++(k.rd++v.rd)
 | .inv _ x xs=>x.rd++rdl xs
 | .ivp _ x xs=>x.rd++rdl xs
 | .mm _ x y=>x.rd++y.rd
 | .trc x hi _=>x.rd++hi.rd
 | .alq _=>[]
 | .bxq x=>x.rd
 | .cvb x=>x.rd
 | .apz y _ _ _=>y.rd
 | .sbq y=>y.rd
 | .aps x y _=>x.rd++y.rd
 | .apb x y _=>x.rd++y.rd
 | .alb _ _ _=>[]
 | .usd x=>x.rd
 | .ust p n _=>p.rd++n.rd
 | .del _ x k=>x.rd++k.rd
 | .mkq _ _ _ _ n=>n.rd
 | .nlq _ _ x=>x.rd
 | .yld g xs=>g.rd++rdl xs
 | .rgs x=>x.rd
 | .nxs x=>x.rd
 | .bad=>[]
def fG:AO→Nat
 | .v (.nil _)=>2
 | _=>3
theorem E4 (x:AO):2≤fG x:=by unfold fG; split<;>decide
def Act'.kind:Act'→Nat
 | .fa _ _=>1
 | .ia _ _ _=>1
 | .iaa _ _ _ _=>1
 | .ld _ _ _=>1
 | .b2s _=>1
 | .lenq _=>1
 | .nlc _=>1
 | .call _ _=>1
 | .callv _ _=>1
 | .alc _=>2
 | .box _=>2
 | .mks _ _ _ _ _=>2
 | .mkm _ _ _ _ _=>2
 | .mk0 _ _ _ _=>2
 | .st _ _ _=>3
 | .callH _ _=>3
 | .lkp _ _ _ _ _=>1
 | .mkp _=>2
 | .mup _ _ _ _=>3
 | .inv _ _ _=>3
 | .ivp _ _ _=>3
 | .trc _ _ _=>3
 | .alq _=>3
 | .bxq _=>3
 | .cvb _=>3
 | .apz _ _ _ _=>1
 | .sbq _=>3
 | .aps _ _ _=>3
 | .apb _ _ _=>3
 | .alb _ _ _=>3
 | .usd _=>1
 | .ust _ _ _=>3
 | .del _ _ _=>3
 | .mkq _ _ _ _ _=>3
 | .ltr _ _ _=>3
 | .yld _ _=>3
 | .rgs _=>2
 | .nxs _=>3
 | .nlq _ _ _=>1
 | .app x _ _ _ _=>fG x
 | _=>0
def AOp.rds (o:AOp):List Nat:=o.a.rds++(match o.g with
 | none=>[]
 | some (t,_)=>[t])
def Agr (σ σ':St) (rs:List Nat):Prop:=∀ t,t∈rs→lk σ'.r t=lk σ.r t
def Ext (σ σ':St):Prop:=∀ (id:Nat) (ob:Ob),σ.h[id]?=some (some ob)→σ'.h[id]?=some (some ob)
section
variable {σ σ':St}
theorem Agr.sub {rs ss:List Nat} (h:Agr σ σ' rs) (hs:∀ t,t∈ss→t∈rs):Agr σ σ' ss:=fun t ht=>h t (hs t ht)
theorem Agr.l {rs ss:List Nat} (h:Agr σ σ' (rs++ss)):Agr σ σ' rs:=h.sub fun t ht=>List.mem_append_left _ ht
theorem Agr.r {rs ss:List Nat} (h:Agr σ σ' (rs++ss)):Agr σ σ' ss:=h.sub fun t ht=>List.mem_append_right _ ht
theorem Agr.ev {x:AO} (h:Agr σ σ' x.rd):σ'.ev x=σ.ev x:=by
 cases x with
 | t n=>exact h n (by simp [AO.rd])
 | v x=>rfl
theorem Agr.evo {d:V} {x:Option AO} (h:Agr σ σ' (rdo x)):σ'.evo d x=σ.evo d x:=by
 cases x with
 | none=>rfl
 | some x=>exact Agr.ev (x:=x) h
theorem Agr.evs:∀ {xs:List AO},Agr σ σ' (rdl xs)→σ'.evs xs=σ.evs xs
 | [],_=>rfl
 | x::xs,h=>by simp only [St.evs,Agr.ev (Agr.l h),Agr.evs (Agr.r h)]
theorem Agr.bldV:∀ {ps:List (Nat × Nat × AO)} {cs:List V},Agr σ σ' (rdp ps)→bldV σ' cs ps=bldV σ cs ps
 | [],_,_=>rfl
 | (off,n,x)::ps,cs,h=>by
   simp only [Abs.bldV,Agr.ev (Agr.l h)]
   cases σ.ev x with
   | none=>rfl
   | some v=>
     simp only
     split
     · cases fY cs off (cl v) with
       | none=>rfl
       | some cs'=>exact Agr.bldV (Agr.r h)
     · rfl
theorem Ext.box (h:Ext σ σ') {id cs} (hb:σ.box? id=some cs):σ'.box? id=some cs:=by
 simp only [St.box?,h _ _ (fF hb)]
theorem Ext.arr (h:Ext σ σ') {id x} (hb:σ.arr? id=some x):σ'.arr? id=some x:=by
 simp only [St.arr?,h _ _ (dn hb)]
theorem Ext.mat (h:Ext σ σ') {id x} (hb:σ.rws? id=some x):σ'.rws? id=some x∧σ'.arr? id=none:=by
 constructor
 · simp only [St.rws?,h _ _ (dU hb)]
 · simp only [St.arr?,h _ _ (dU hb)]
theorem Ext.mp (h:Ext σ σ') {id x} (hb:σ.mp? id=some x):σ'.mp? id=some x:=by
 simp only [St.mp?,h _ _ (qZ hb)]
theorem PQ {ms:List Po} (h:σ.h[0]?=some (some (.pool ms))):σ.pl?=some ms:=by
 unfold St.pl?
 cases hh:σ.h with
 | nil=>rw [hh] at h; simp at h
 | cons a l=>rw [hh] at h; simp at h; subst h; rfl
theorem Ext.pl (h:Ext σ σ') {ms} (hb:σ.pl?=some ms):σ'.pl?=some ms:=PQ (h _ _ (bk hb))
theorem Ext.live (h:Ext σ σ') {v:V} (hv:σ.live v=true):σ'.live v=true:=by
 cases v<;>simp only [St.live] at hv ⊢<;>try assumption
 case ptr id off=>
  obtain ⟨cs,hc⟩:=Option.isSome_iff_exists.1 hv
  rw [h.box hc]; rfl
 case eptr id n i off=>
  split at hv
  · rename_i e sz l hl
    rw [h.arr hl]; exact hv
  · cases hv
 case mptr id i n k off=>
  split at hv
  · rename_i e e2 sz l hl
    rw [(h.mat hl).1]; exact hv
  · cases hv
 case q k j n i o=>
  split at hv
  · rename_i ms hms
    rw [h.pl hms]; exact hv
  · cases hv
 case fn f a b=>cases f<;>exact hv
theorem Ext.fetch (h:Ext σ σ') {p:V} {n:Nat} {us:List V} (hv:σ.fetch p n=some us):σ'.fetch p n=some us:=by
 cases p<;>simp only [St.fetch] at hv ⊢<;>try assumption
 case ptr id off=>
  split at hv
  · rename_i cs hc; rw [h.box hc]; exact hv
  · cases hv
 case eptr id m i off=>
  split at hv
  · rename_i e sz l hl; rw [h.arr hl]; exact hv
  · split at hv
    · rename_i e e2 sz l hl; simp only [(h.mat hl).1,(h.mat hl).2]; exact hv
    · cases hv
 case mptr id i n k off=>
  split at hv
  · rename_i e e2 sz l hl
    rw [(h.mat hl).1]; exact hv
  · cases hv
 case q k j m i o=>
  split at hv
  · rename_i ms hms
    rw [h.pl hms]; exact hv
  · cases hv
theorem Ext.pur1 (h:Ext σ σ') {id n:Nat} {u:V} (hv:pur1 σ.h id n=some u):pur1 σ'.h id n=some u:=by
 unfold Abs.pur1 at hv ⊢
 split at hv
 · rename_i hb; rw [h _ _ hb]; exact hv
 · rename_i hb; rw [h _ _ hb]; exact hv
 · cases hv
theorem Ext.pur2 (h:Ext σ σ') {id i n:Nat} {u:V} (hv:pur2 σ.h id i n=some u):pur2 σ'.h id i n=some u:=by
 unfold Abs.pur2 at hv ⊢
 split at hv
 · rename_i hb; rw [h _ _ hb]; exact hv
 · cases hv
mutual
theorem Ext.pur (h:Ext σ σ'):∀ {v u:V},pur σ.h v=some u→pur σ'.h v=some u
 | .nil sz,_,hv=>by simp only [Abs.pur] at hv ⊢; exact hv
 | .ref id n,_,hv=>by simp only [Abs.pur] at hv ⊢; exact h.pur1 hv
 | .mref id i n,_,hv=>by simp only [Abs.pur] at hv ⊢; exact h.pur2 hv
 | .fseq _ _,_,hv=>by simp only [Abs.pur] at hv ⊢; exact hv
 | .mptr _ _ _ _ _,_,hv=>by simp only [Abs.pur] at hv; cases hv
 | .strct cs,_,hv=>by
   simp only [Abs.pur,Option.map_eq_some_iff] at hv ⊢
   obtain ⟨us,h1,h2⟩:=hv
   exact ⟨us,Ext.purs h h1,h2⟩
 | .tup cs,_,hv=>by
   simp only [Abs.pur,Option.map_eq_some_iff] at hv ⊢
   obtain ⟨us,h1,h2⟩:=hv
   exact ⟨us,Ext.purs h h1,h2⟩
 | .fn f a b,_,hv=>by
   simp only [Abs.pur] at hv ⊢
   split at hv
   · rename_i a' b' h1 h2; rw [Ext.purs h h1,Ext.purs h h2]; exact hv
   · cases hv
 | .iface t x,_,hv=>by
   simp only [Abs.pur,Option.map_eq_some_iff] at hv ⊢
   obtain ⟨us,h1,h2⟩:=hv
   exact ⟨us,Ext.pur h h1,h2⟩
 | .ptr _ _,_,hv=>by simp only [Abs.pur] at hv; cases hv
 | .eptr _ _ _ _,_,hv=>by simp only [Abs.pur] at hv; cases hv
 | .int _ _,_,hv=>by simp only [Abs.pur] at hv ⊢; exact hv
 | .bool _,_,hv=>by simp only [Abs.pur] at hv ⊢; exact hv
 | .str _,_,hv=>by simp only [Abs.pur] at hv ⊢; exact hv
 | .seq _ _,_,hv=>by simp only [Abs.pur] at hv ⊢; exact hv
 | .sptr _ _,_,hv=>by simp only [Abs.pur] at hv ⊢; exact hv
 | .nilptr,_,hv=>by simp only [Abs.pur] at hv ⊢; exact hv
 | .nilfn,_,hv=>by simp only [Abs.pur] at hv ⊢; exact hv
 | .nilmp,_,hv=>by simp only [Abs.pur] at hv ⊢; exact hv
 | .niliface,_,hv=>by simp only [Abs.pur] at hv ⊢; exact hv
 | .junk,_,hv=>by simp only [Abs.pur] at hv ⊢; exact hv
theorem Ext.purs (h:Ext σ σ'):∀ {v u:List V},purs σ.h v=some u→purs σ'.h v=some u
 | [],_,hv=>by simp only [Abs.purs] at hv ⊢; exact hv
 | v::vs,_,hv=>by
   simp only [Abs.purs] at hv ⊢
   split at hv
   · rename_i a' b' h1 h2; rw [Ext.pur h h1,Ext.purs h h2]; exact hv
   · cases hv
end
theorem L4 {a:Act'} (hk:a.kind=0) (h:Agr σ σ' a.rds):σ'.val a=σ.val a:=by
 cases a<;>simp only [Act'.kind] at hk<;>first | exact absurd hk (by decide) | skip
 all_goals simp only [Act'.rds] at h
 all_goals simp only [St.val]
 case mov x=>exact h.ev
 case pick c a b=>rw [h.l.ev,h.r.l.ev,h.r.r.ev]
 case fld=>rw [h.ev]
 case ixs=>rw [h.l.ev,h.r.ev]
 case ixa=>rw [h.l.ev,h.r.ev]
 case bin=>rw [h.l.ev,h.r.ev]
 case un=>rw [h.ev]
 case cii=>rw [h.ev]
 case r2s=>rw [h.ev]
 case sls=>simp only [h.l.ev,h.r.l.evo,h.r.r.evo]
 case slq=>simp only [h.l.ev,h.r.l.evo,h.r.r.evo]
 case lens=>rw [h.ev]
 case beq=>rw [h.l.ev,h.r.ev]
 case ext=>rw [h.ev]
 case bld=>rw [h.bldV]
 case mkf=>rw [h.l.evs,h.r.evs]
 case mki=>rw [h.ev]
 case tya=>rw [h.ev]
 case aeq=>rw [h.l.ev,h.r.ev]
 case mm=>rw [h.l.ev,h.r.ev]
theorem Ext.isNil (h:Ext σ σ') {k:Nat} {v:V} {b:Bool} (hb:St.isNil k (σ.live v) v=some b):St.isNil k (σ'.live v) v=some b:=by
 cases hl:σ.live v with
 | true=>rw [h.live hl]; rw [hl] at hb; exact hb
 | false=>
   rw [hl] at hb
   cases v<;>simp [St.isNil] at hb ⊢<;>exact hb
theorem Ext.isNilB (h:Ext σ σ') {k:Nat} {v:V} {b:Bool} (hb:(if k=3 then St.isNilM σ v else St.isNil k (σ.live v) v)=some b):(if k=3 then St.isNilM σ' v else St.isNil k (σ'.live v) v)=some b:=by
 by_cases hk:k=3
 · rw [if_pos hk] at hb ⊢
   cases v<;>simp only [St.isNilM] at hb ⊢<;>first | exact hb | skip
   split at hb
   · rename_i hm
     cases hq:σ.mp? _ with
     | none=>rw [hq] at hm; simp at hm
     | some q=>
       obtain ⟨kt,l⟩:=q
       rw [h.mp hq]
       exact hb
   · cases hb
 · rw [if_neg hk] at hb ⊢
   exact h.isNil hb
theorem F5 {a:Act'} (hk:a.kind=1) (h:Agr σ σ' a.rds) (hx:Ext σ σ') {v:V} (hv:σ.val a=some v):σ'.val a=some v:=by
 cases a<;>simp only [Act'.kind] at hk<;>first | exact absurd hk (by decide) | skip
 all_goals simp only [Act'.rds] at h
 all_goals simp only [St.val] at hv ⊢
 case call=>cases hv
 case callv=>cases hv
 case app=>cases hv
 case apz=>cases hv
 case usd=>cases hv
 case fa x off=>
  rw [h.ev]
  split at hv
  · rename_i u hu
    split at hv
    · rename_i hl; rw [if_pos (hx.live hl)]; exact hv
    · cases hv
  · cases hv
 case ia x i sz=>
  rw [h.l.ev,h.r.ev]
  split at hv
  · exact hv
  · exact hv
  · rename_i id m k n h1 h2
    split at hv
    · rename_i e sz' l hl; rw [hx.arr hl]; exact hv
    · split at hv
      · rename_i e e2 sz l hl; simp only [(hx.mat hl).1,(hx.mat hl).2]; exact hv
      · cases hv
  · split at hv
    · rename_i e e2 sz l hl; rw [(hx.mat hl).1]; exact hv
    · cases hv
  · split at hv
    · rename_i ms hms; rw [hx.pl hms]; exact hv
    · cases hv
  · cases hv
 case iaa x i len sz=>
  rw [h.l.ev,h.r.ev]
  split at hv
  · rename_i u k n h1 h2
    split at hv
    · rename_i hl; rw [if_pos ⟨hx.live hl.1,hl.2⟩]; exact hv
    · cases hv
  · cases hv
 case ld x n agg=>
  rw [h.ev]
  split at hv
  · rename_i p hp
    split at hv
    · rename_i us hus; simp only [hx.fetch hus]; exact hv
    · cases hv
  · cases hv
 case b2s x=>
  rw [h.ev]
  split at hv
  · split at hv
    · rename_i ms hms; simp only [hx.pl hms]; exact hv
    · cases hv
  · rename_i u _ hu
    split at hv
    · rename_i l hl; simp only [hx.pur hl]; exact hv
    · cases hv
  · cases hv
 case lenq x=>
  rw [h.ev]
  split at hv
  · exact hv
  · exact hv
  · exact hv
  · rename_i id n hu
    split at hv
    · rename_i e sz l hl; simp only [hx.arr hl]; exact hv
    · split at hv
      · rename_i e e2 sz l hl; simp only [(hx.mat hl).1,(hx.mat hl).2]; exact hv
      · cases hv
  · split at hv
    · rename_i e e2 sz l hl; simp only [(hx.mat hl).1]; exact hv
    · cases hv
  · split at hv
    · rename_i ms hms; simp only [hx.pl hms]; exact hv
    · cases hv
  · cases hv
 case nlc x=>
  rw [h.ev]
  split at hv
  · rename_i u hu
    split at hv
    · rename_i hl; rw [if_pos (hx.live hl)]; exact hv
    · cases hv
  · cases hv
 case nlq k neg x=>
  rw [h.ev]
  split at hv
  · rename_i u hu
    split at hv
    · rename_i b hb; simp only [hx.isNilB hb]; exact hv
    · cases hv
  · cases hv
 case lkp kt z okk x k=>
  rw [h.l.ev,h.r.ev]
  split at hv
  · rename_i id n kv h1 h2
    split at hv
    · rename_i kt' l hm
      simp only [hx.mp hm]
      exact hv
    · cases hv
  · exact hv
  · cases hv
def RR (k:Nat) (σ σ':St):Prop:=k=0∨(k=1∧Ext σ σ')∨σ'.h=σ.h
def post (k:Nat) (σ':St) (h':List (Option Ob)) (d:Option Nat) (v:V):St:=St.put { σ' with h:=if k≤1 then σ'.h else h' } d v
def Dx (T:(St→Prop)→St→Prop) (k:Nat) (rs:List Nat) (d:Option Nat) (σ:St) (K:St→Prop):Prop:=
 ∃ h' v,(k≤1→h'=σ.h)∧(k=2→∀ (id:Nat) (ob:Ob),σ.h[id]?=some (some ob)→h'[id]?=some (some ob))∧K (St.put { σ with h:=h' } d v)∧
   ∀ (σ':St) (K':St→Prop),Agr σ σ' rs→RR k σ σ'→K' (post k σ' h' d v)→T K' σ'
theorem RR.ext {k:Nat} (h:RR k σ σ') (hk:k=1):Ext σ σ':=by
 rcases h with h | h | h
 · omega
 · exact h.2
 · intro i ob h'; rw [h]; exact h'
theorem RR.heq {k:Nat} (h:RR k σ σ') (hk:2≤k):σ'.h=σ.h:=by
 rcases h with h | h | h
 · omega
 · omega
 · exact h
variable {Φ:Ctr} {d:Option Nat} {K:St→Prop}
theorem F0 {a:Act'} {v:V} (h:σ.val a=some v) (hK:K (σ.put d v)) (hk:a.kind≤1):af Φ d a K σ:=by
 cases a<;>simp only [af,ae]<;>simp only [Act'.kind] at hk<;>first | (simp only [h]; exact hK) | (exfalso; revert hk; decide) | (simp [St.val] at h)
theorem J3 {a:Act'} (hk:a.kind≤1) {v:V} (h:σ.val a=some v) (hK:K (σ.put d v)):Dx (af Φ d a) a.kind a.rds d σ K:=by
 refine ⟨σ.h,v,fun _=>rfl,fun _ _ _ h=>h,hK,fun σ' K' ha hf hK'=>?_⟩
 simp only [post,if_pos hk] at hK'
 refine F0 (v:=v) ?_ hK' hk
 rcases Nat.le_one_iff_eq_zero_or_eq_one.1 hk with h0 | h1
 · rw [L4 h0 ha]; exact h
 · exact F5 h1 ha (hf.ext h1) h
theorem bL {α:Type} {l:List α} {x y:α} {i:Nat} (h:l[i]?=some x):(l++[y])[i]?=some x:=by
 rw [List.getElem?_append_left (List.getElem?_eq_some_iff.1 h).1]; exact h
theorem Jx (r:List (Nat × V)):∀ (ids:List Nat) (σ:St),({ σ with r:=r }:St).kill ids={ (σ.kill ids) with r:=r }
 | [],σ=>rfl
 | id::ids,σ=>by simp only [St.kill]; exact Jx r ids { σ with h:=σ.h.set id none }
theorem Mf (r:List (Nat × V)) (σ:St) (n id m i off:Nat) (us:List V):({ σ with r:=r }:St).storM n id m i off us=(σ.storM n id m i off us).map fun τ=>{ τ with r:=r }:=by
 have e1:∀ id,St.arr? { σ with r:=r } id=σ.arr? id:=fun _=>rfl
 have e2:∀ id,St.rws? { σ with r:=r } id=σ.rws? id:=fun _=>rfl
 unfold St.storM
 split
 · simp only [e1,e2]
   split
   · split
     · split<;>rfl
     · rfl
   · rfl
 · rfl
theorem Iz (r:List (Nat × V)) (σ:St) (n:Nat) (p:V) (us:List V):({ σ with r:=r }:St).stor n p us=(σ.stor n p us).map fun τ=>{ τ with r:=r }:=by
 have e1:∀ (τ:St) id,St.arr? { τ with r:=r } id=τ.arr? id:=fun _ _=>rfl
 have e2:∀ (τ:St) id,St.rws? { τ with r:=r } id=τ.rws? id:=fun _ _=>rfl
 have e3:∀ (τ:St) id,St.box? { τ with r:=r } id=τ.box? id:=fun _ _=>rfl
 have e4:∀ (τ:St),St.pl? { τ with r:=r }=τ.pl?:=fun _=>rfl
 cases p<;>simp only [St.stor,Jx,e1,e2,e3,e4,Mf]<;>try rfl
 · split
   · split
     · split<;>rfl
     · rfl
   · rfl
 · split
   · split
     · split
       · split
         · split
           · split<;>rfl
           · rfl
         · rfl
       · rfl
     · rfl
   · rfl
 · split
   · split
     · split
       · split
         · split
           · split
             · split<;>rfl
             · rfl
           · rfl
         · rfl
       · rfl
     · rfl
   · rfl
 · split
   · split
     · split
       · split<;>rfl
       · rfl
     · split
       · split
         · split
           · split<;>rfl
           · rfl
         · rfl
       · rfl
     · split
       · split<;>rfl
       · rfl
     · rfl
   · rfl
theorem Me (σ:St) (n:Nat) (p:V) (us:List V) {τ:St} (h:σ.stor n p us=some τ):τ.r=σ.r:=by
 have h1:=Iz σ.r σ n p us
 have h2:({ σ with r:=σ.r }:St)=σ:=rfl
 rw [h2,h] at h1
 simp only [Option.map_some,Option.some.injEq] at h1
 rw [h1]
theorem aO {σ σ':St} (he:σ'.h=σ.h) (v:V):σ'.cur0 v=σ.cur0 v:=by
 cases v<;>simp only [St.cur0,St.box?,St.arr?,St.gh?,St.pl?,he]
mutual
theorem rn {σ σ':St} (he:σ'.h=σ.h):∀ v:V,σ'.cur v=σ.cur v
 | .fn _ a b=>by simp only [St.cur,ik he a,ik he b]
 | .strct a=>by simp only [St.cur,ik he a]
 | .tup a=>by simp only [St.cur,ik he a]
 | .iface _ x=>by simp only [St.cur,rn he x]
 | .int _ _=>by simp only [St.cur,aO he]
 | .bool _=>by simp only [St.cur,aO he]
 | .str _=>by simp only [St.cur,aO he]
 | .nil _=>by simp only [St.cur,aO he]
 | .seq _ _=>by simp only [St.cur,aO he]
 | .fseq _ _=>by simp only [St.cur,aO he]
 | .sptr _ _=>by simp only [St.cur,aO he]
 | .nilptr=>by simp only [St.cur,aO he]
 | .nilfn=>by simp only [St.cur,aO he]
 | .nilmp=>by simp only [St.cur,aO he]
 | .niliface=>by simp only [St.cur,aO he]
 | .junk=>by simp only [St.cur,aO he]
 | .mref _ _ _=>by simp only [St.cur,aO he]
 | .mptr _ _ _ _ _=>by simp only [St.cur,aO he]
 | .ref _ _=>by simp only [St.cur,aO he]
 | .ptr _ _=>by simp only [St.cur,aO he]
 | .eptr _ _ _ _=>by simp only [St.cur,aO he]
 | .q _ _ _ _ _=>by simp only [St.cur,aO he]
theorem ik {σ σ':St} (he:σ'.h=σ.h):∀ v:List V,σ'.curA v=σ.curA v
 | []=>rfl
 | v::vs=>by simp only [St.curA,rn he v,ik he vs]
end
theorem vj {σ σ':St} (he:σ'.h=σ.h):∀ l:List V,σ'.curs l=σ.curs l
 | []=>rfl
 | v::l=>by simp only [St.curs,rn he,vj he l]
theorem uv:∀ (l:List Nat) {σ σ':St},σ'.h=σ.h→(σ'.kill l).h=(σ.kill l).h
 | [],_,_,he=>he
 | id::l,σ,σ',he=>by
   simp only [St.kill]
   exact uv l (by simp only [he])
theorem E0 {σ σ':St} (he:σ'.h=σ.h) {q:Nat} {m:List Nat} {H':List (Option Ob)}:σ'.back q m H'=σ.back q m H':=by
 simp only [St.back,uv m he,he]
theorem r7:∀ (ids:List Nat) {σ σ':St},σ'.h=σ.h→(σ'.kill ids).h=(σ.kill ids).h
 | [],_,_,he=>he
 | id::ids,σ,σ',he=>by
   simp only [St.kill]
   exact r7 ids (by simp only [he])
theorem Ext.src (h:Ext σ σ') {v u:V} (hv:src σ.h v=some u):src σ'.h v=some u:=by
 cases v<;>simp only [Abs.src] at hv ⊢<;>try exact h.pur hv
 split at hv
 · rename_i e sz l hl; rw [h _ _ hl]; exact hv
 · cases hv
theorem tP {a:Act'} (h:af Φ d a K σ):Dx (af Φ d a) a.kind a.rds d σ K:=by
 cases a with
 | lit e0 sz xs=>
   simp only [af] at h
   split at h
   · rename_i vs hvs
     split at h
     · rename_i us hus
       refine ⟨σ.h,.seq sz us,fun _=>rfl,fun _ _ _ h=>h,h.2.2,fun σ' K' ha hf hK'=>?_⟩
       simp only [Act'.rds] at ha
       simp only [af,ha.evs,hvs,hus]
       exact ⟨h.1,h.2.1,hK'⟩
     · exact h.elim
   · exact h.elim
 | call f xs=>
   simp only [af] at h
   split at h
   · rename_i vs hvs
     split at h
     · rename_i us hus
       obtain ⟨r,h1,h3⟩:=h
       refine ⟨σ.h,r,fun _=>rfl,fun _ _ _ h=>h,h3,fun σ' K' ha hf hK'=>?_⟩
       simp only [Act'.rds] at ha
       simp only [af,ha.evs,hvs,(hf.ext rfl).purs hus]
       exact Exists.intro r ⟨h1,hK'⟩
     · exact h.elim
   · exact h.elim
 | callv g xs=>
   simp only [af] at h
   split at h
   · rename_i f a b vs hg hvs
     split at h
     · rename_i us hus
       obtain ⟨r,h1,h3⟩:=h
       refine ⟨σ.h,r,fun _=>rfl,fun _ _ _ h=>h,h3,fun σ' K' ha hf hK'=>?_⟩
       simp only [Act'.rds] at ha
       simp only [af,ha.l.ev,hg,ha.r.evs,hvs,(hf.ext rfl).purs hus]
       exact Exists.intro r ⟨h1,hK'⟩
     · exact h.elim
   · exact h.elim
 | alc z=>
   simp only [af,ae] at h
   refine ⟨_,_,fun h=>absurd h (by simp [Act'.kind]),fun _ id ob h=>bL h,h,fun σ' K' ha hf hK'=>?_⟩
   simp only [af,ae]
   rw [hf.heq (by simp [Act'.kind])]
   exact hK'
 | box x=>
   simp only [af,ae] at h
   split at h
   · rename_i v hv
     split at h
     · rename_i hn
       refine ⟨_,_,fun h=>absurd h (by simp [Act'.kind]),fun _ id ob h=>bL h,h,fun σ' K' ha hf hK'=>?_⟩
       simp only [Act'.rds] at ha
       simp only [af,ae,ha.ev,hv,if_pos hn]
       rw [hf.heq (by simp [Act'.kind])]
       exact hK'
     · exact h.elim
   · exact h.elim
 | mkm e by' e2 sz n=>
   simp only [af,ae] at h
   split at h
   · rename_i k m hm
     obtain ⟨h1,h2,h3⟩:=h
     refine ⟨_,_,fun h=>absurd h (by simp [Act'.kind]),fun _ id ob h=>bL h,h3,fun σ' K' ha hf hK'=>?_⟩
     simp only [Act'.rds] at ha
     simp only [af,ae,ha.ev,hm]
     rw [hf.heq (by simp [Act'.kind])]
     exact ⟨h1,h2,hK'⟩
   · exact h.elim
 | mk0 e sz by' n=>
   simp only [af,ae] at h
   split at h
   · rename_i k m hm
     obtain ⟨h1,h2,h3⟩:=h
     refine ⟨_,_,fun h=>absurd h (by simp [Act'.kind]),fun _ id ob h=>bL h,h3,fun σ' K' ha hf hK'=>?_⟩
     simp only [Act'.rds] at ha
     simp only [af,ae,ha.ev,hm]
     rw [hf.heq (by simp [Act'.kind])]
     exact ⟨h1,h2,hK'⟩
   · exact h.elim
 | mks e sz by' z n=>
   simp only [af,ae] at h
   split at h
   · rename_i k m hm
     obtain ⟨h1,h2,h3⟩:=h
     refine ⟨_,_,fun h=>absurd h (by simp [Act'.kind]),fun _ id ob h=>bL h,h3,fun σ' K' ha hf hK'=>?_⟩
     simp only [Act'.rds] at ha
     simp only [af,ae,ha.ev,hm]
     rw [hf.heq (by simp [Act'.kind])]
     exact ⟨h1,h2,hK'⟩
   · exact h.elim
 | s2b x=>
   simp only [af,ae] at h
   split at h
   · rename_i s hs
     refine ⟨σ.h,_,fun _=>rfl,fun _ _ _ h=>h,h.2,fun σ' K' ha hf hK'=>?_⟩
     simp only [Act'.rds] at ha
     simp only [af,ae,ha.ev,hs]
     exact ⟨h.1,hK'⟩
   · exact h.elim
 | st n p x=>
   simp only [af,ae] at h
   split at h
   · rename_i a v ha hv
     split at h
     · rename_i hn
       split at h
       · rename_i σ1 hs
         have hr:σ1.r=σ.r∧∀ σ':St,σ'.h=σ.h→σ'.stor n a (cl v)=some { σ' with h:=σ1.h }:=by
          refine ⟨Me _ _ _ _ hs,fun σ' he=>?_⟩
          have h1:=Iz σ'.r σ n a (cl v)
          have h2:({ σ with r:=σ'.r }:St)=σ':=by rw [←he]
          rw [h2,hs] at h1
          rw [h1,Option.map_some]
         refine ⟨σ1.h,.tup [],fun h=>absurd h (by simp [Act'.kind]),fun h=>absurd h (by simp [Act'.kind]),?_,fun σ' K' hg hf hK'=>?_⟩
         · have:({ σ with h:=σ1.h }:St)=σ1:=by rw [←hr.1]
           rw [this]; exact h
         · simp only [Act'.rds] at hg
           simp only [af,ae,hg.l.ev,ha,hg.r.ev,hv,if_pos hn,hr.2 σ' (hf.heq (by simp [Act'.kind]))]
           exact hK'
       · exact h.elim
     · exact h.elim
   · exact h.elim
 | app x y e sz by'=>
   have hk2:∀ y' e' sz' b',2≤(Act'.app x y' e' sz' b').kind:=fun _ _ _ _=>E4 x
   have hne:¬(Act'.app x y e sz by').kind≤1:=by have:=hk2 y e sz by'; omega
   simp only [af] at h
   split at h
   · rename_i vy hvy
     split at h
     · exact h.elim
     rename_i hbad
     have hbad:mn x vy=false:=by simpa using hbad
     simp only [ae] at h
     split at h
     · rename_i k j n i0 o0 v hu hv
       rw [hvy] at hv
       cases hv
       unfold AU at h
       split at h
       · rename_i ms hms
         split at h
         · rename_i e1 sz1 l0 l hj hsrc
           obtain ⟨h1,h2,h3,h4,h5,h6⟩:=h
           have hn2:(Act'.app x y e sz by').kind≠2:=by
            cases x with
            | t n=>simp [Act'.kind,fG]
            | v x=>
              simp only [St.ev,Option.some.injEq] at hu
              subst hu
              simp [Act'.kind,fG]
           refine ⟨_,_,fun h=>absurd h hne,fun h=>absurd h hn2,h6,fun σ' K' hg hf hK'=>?_⟩
           simp only [post,if_neg hne] at hK'
           simp only [Act'.rds] at hg
           have he:=hf.heq (hk2 y e sz by')
           have hms':σ'.pl?=some ms:=by simp only [St.pl?,he]; exact hms
           have hsrc':vM σ' ms sz vy=some l:=by
            rw [←hsrc]
            cases vy<;>simp only [vM,IB,he]
           simp only [af,hg.r.ev,hvy,hbad,Bool.false_eq_true,if_false,ae,hg.l.ev,hu,AU,hms',hj,hsrc']
           refine ⟨h1,h2,h3,h4,h5,?_⟩
           simp only [St.setP,he]
           exact hK'
         · exact h.elim
       · exact h.elim
     · rename_i s0 k j n i0 o0 hu hv
       rw [hvy] at hv
       cases hv
       unfold AV at h
       split at h
       · rename_i ms hms
         split at h
         · rename_i e1 sz1 l hj
           obtain ⟨h1,h2,h3,h4,h5⟩:=h
           have hn2:(Act'.app x y e sz by').kind≠2:=by
            cases x with
            | t n=>simp [Act'.kind,fG]
            | v x=>
              simp only [St.ev,Option.some.injEq] at hu
              subst hu
              simp [mn] at hbad
           refine ⟨_,_,fun h=>absurd h hne,fun h=>absurd h hn2,h5,fun σ' K' hg hf hK'=>?_⟩
           simp only [post,if_neg hne] at hK'
           simp only [Act'.rds] at hg
           have he:=hf.heq (hk2 y e sz by')
           have hms':σ'.pl?=some ms:=by simp only [St.pl?,he]; exact hms
           simp only [af,hg.r.ev,hvy,hbad,Bool.false_eq_true,if_false,ae,hg.l.ev,hu,AV,hms',hj]
           refine ⟨h1,h2,h3,h4,?_⟩
           simp only [St.setP,he]
           exact hK'
         · exact h.elim
       · exact h.elim
     rotate_left
     · exact h.elim
     rename_i u v hn1 hn2' hu hv
     rw [hvy] at hv
     cases hv
     have hv:=hvy
     split at h
     · rename_i sz' l hl
       obtain ⟨h0,h⟩:=h
       split at h
       · rename_i sz2
         refine ⟨_,_,fun h=>absurd h (by have:=hk2 y e sz by'; omega),fun _ id ob h=>bL h,h.2,fun σ' K' hg hf hK'=>?_⟩
         simp only [post,if_neg hne] at hK'
         simp only [Act'.rds] at hg
         have he:=hf.heq (hk2 y e sz by')
         simp only [af,hg.r.ev,hv,hbad,Bool.false_eq_true,if_false,ae,hg.l.ev,hu]
         rw [he]
         simp only [hl]
         exact ⟨h0,h.1,hK'⟩
       · rename_i id n
         split at h
         · rename_i e' sz2 l0 ha
           obtain ⟨h1,h2,h3,h4,h5⟩:=h
           have hn2:(Act'.app x y e sz by').kind≠2:=by
            cases x with
            | t n=>simp [Act'.kind,fG]
            | v x=>
              simp only [St.ev,Option.some.injEq] at hu
              subst hu
              simp [Act'.kind,fG]
           refine ⟨_,_,fun h=>absurd h hne,fun h=>absurd h hn2,h5,fun σ' K' hg hf hK'=>?_⟩
           simp only [post,if_neg hne] at hK'
           simp only [Act'.rds] at hg
           have he:=hf.heq (hk2 y e sz by')
           have ha':σ'.arr? id=some (e',sz2,l0):=by simp only [St.arr?,he]; exact ha
           simp only [af,hg.r.ev,hv,hbad,Bool.false_eq_true,if_false,ae,hg.l.ev,hu,ha']
           rw [he]
           simp only [hl]
           exact ⟨h0,h1,h2,h3,h4,hK'⟩
         · exact h.elim
       · rename_i id i n
         split at h
         · rename_i e1 e2 sz2 rows ha
           split at h
           · rename_i r hr
             obtain ⟨h1,h2,h3,h4,h5⟩:=h
             have hn2:(Act'.app x y e sz by').kind≠2:=by
              cases x with
              | t n=>simp [Act'.kind,fG]
              | v x=>
                simp only [St.ev,Option.some.injEq] at hu
                subst hu
                simp [Act'.kind,fG]
             refine ⟨_,_,fun h=>absurd h hne,fun h=>absurd h hn2,h5,fun σ' K' hg hf hK'=>?_⟩
             simp only [post,if_neg hne] at hK'
             simp only [Act'.rds] at hg
             have he:=hf.heq (hk2 y e sz by')
             have ha':σ'.rws? id=some (e1,e2,sz2,rows):=by simp only [St.rws?,he]; exact ha
             simp only [af,hg.r.ev,hv,hbad,Bool.false_eq_true,if_false,ae,hg.l.ev,hu,ha',hr]
             rw [he]
             simp only [hl]
             exact ⟨h0,h1,h2,h3,h4,hK'⟩
           · exact h.elim
         · exact h.elim
       · exact h.elim
     · exact h.elim
   · exact h.elim
 | callH f xs=>
   simp only [af] at h
   split at h
   · rename_i vs hvs
     obtain ⟨ps,h1,r,H',h2,h3,h4⟩ | ⟨r,hz,h4⟩:=h
     · refine ⟨_,_,fun h=>absurd h (by simp [Act'.kind]),fun h=>absurd h (by simp [Act'.kind]),h4,fun σ' K' ha hf hK'=>?_⟩
       simp only [Act'.rds] at ha
       have he:=hf.heq (show 2≤(Act'.callH f xs).kind by simp [Act'.kind])
       simp only [af,ha.evs,hvs]
       refine .inl ⟨ps,by rw [vj he]; exact h1,r,H',by rw [he]; exact h2,by rw [he]; exact h3,?_⟩
       rw [he,E0 he]
       exact hK'
     · refine ⟨σ.h,r,fun _=>rfl,fun _ _ _ h=>h,h4,fun σ' K' ha hf hK'=>?_⟩
       simp only [Act'.rds] at ha
       have he:=hf.heq (show 2≤(Act'.callH f xs).kind by simp [Act'.kind])
       simp only [af,ha.evs,hvs]
       refine .inr ⟨r,?_,?_⟩
       · unfold DD St.pl? at hz ⊢
         rwa [he]
       · rw [←he] at hK'
         exact hK'
   · exact h.elim
 | inv tbl x xs=>
   simp only [af] at h
   split at h
   · rename_i t v vs hx hvs
     split at h
     · rename_i f hf'
       split at h
       · rename_i us hus
         obtain ⟨r,h1,h3⟩:=h
         refine ⟨σ.h,r,fun _=>rfl,fun _ _ _ h=>h,h3,fun σ' K' ha hf hK'=>?_⟩
         simp only [Act'.rds] at ha
         have he:=hf.heq (show 2≤(Act'.inv tbl x xs).kind by simp [Act'.kind])
         simp only [af,ha.l.ev,hx,ha.r.evs,hvs,hf',he,hus]
         refine Exists.intro r ⟨h1,?_⟩
         have:post (Act'.inv tbl x xs).kind σ' σ.h d r=St.put σ' d r:=by
          simp only [post,Act'.kind,show ¬(3≤1) by omega,if_false,←he]
         rw [this] at hK'
         exact hK'
       · exact h.elim
     · exact h.elim
   · exact h.elim
 | ivp tbl x xs=>exact (show False from h).elim
 | rgs x=>
   simp only [af,ae] at h
   split at h
   · rename_i s hs
     refine ⟨_,_,fun h=>absurd h (by simp [Act'.kind]),fun _ id ob h=>bL h,h,fun σ' K' ha hf hK'=>?_⟩
     simp only [Act'.rds] at ha
     simp only [af,ae,ha.ev,hs]
     rw [hf.heq (by simp [Act'.kind])]
     exact hK'
   · exact h.elim
 | nxs x=>
   simp only [af,ae] at h
   split at h
   · rename_i id n hs
     split at h
     · rename_i s p hi
       split at h
       · rename_i hp
         refine ⟨_,_,fun h=>absurd h (by simp [Act'.kind]),fun h=>absurd h (by simp [Act'.kind]),h,fun σ' K' ha hf hK'=>?_⟩
         simp only [Act'.rds] at ha
         have he:=hf.heq (show 2≤(Act'.nxs x).kind by simp [Act'.kind])
         have hi':σ'.itr? id=some (s,p):=by simp only [St.itr?,he]; exact hi
         simp only [af,ae,ha.ev,hs,hi',if_pos hp,he]
         exact hK'
       · rename_i hp
         refine ⟨σ.h,_,fun h=>absurd h (by simp [Act'.kind]),fun h=>absurd h (by simp [Act'.kind]),h,fun σ' K' ha hf hK'=>?_⟩
         simp only [Act'.rds] at ha
         have he:=hf.heq (show 2≤(Act'.nxs x).kind by simp [Act'.kind])
         have hi':σ'.itr? id=some (s,p):=by simp only [St.itr?,he]; exact hi
         simp only [af,ae,ha.ev,hs,hi',if_neg hp]
         simp only [post,show ¬(Act'.nxs x).kind≤1 by simp [Act'.kind],if_false] at hK'
         rw [←he] at hK'
         exact hK'
     · exact h.elim
   · exact h.elim
 | yld g xs=>
   simp only [af,ae] at h
   split at h
   · rename_i id n vs hg hvs
     split at h
     · rename_i v b l us hgh hus
       obtain ⟨h1,h2,h3⟩:=h
       refine ⟨_,_,fun h=>absurd h (by simp [Act'.kind]),fun h=>absurd h (by simp [Act'.kind]),h3,fun σ' K' ha hf hK'=>?_⟩
       simp only [Act'.rds] at ha
       have he:=hf.heq (show 2≤(Act'.yld g xs).kind by simp [Act'.kind])
       have hgh':σ'.gh? id=some ((v,b)::l):=by simp only [St.gh?,he]; exact hgh
       simp only [af,ae,ha.l.ev,hg,ha.r.evs,hvs,hgh',he,hus]
       exact ⟨h1,h2,hK'⟩
     · exact h.elim
   · exact h.elim
 | trc x hi sz=>exact (show False from h).elim
 | ltr e sz xs=>
   simp only [af,ae] at h
   split at h
   · rename_i vs hvs
     split at h
     · rename_i us hus
       obtain ⟨h1,h2,h3⟩:=h
       rw [Fs] at h3
       refine ⟨(σ.kill (aj vs)).h++[some (Ob.arr e sz us)],.ref (σ.kill (aj vs)).h.length us.length,fun h=>absurd h (by simp [Act'.kind]),fun h=>absurd h (by simp [Act'.kind]),h3,fun σ' K' ha hf hK'=>?_⟩
       simp only [Act'.rds] at ha
       have he:=hf.heq (show 2≤(Act'.ltr e sz xs).kind by simp [Act'.kind])
       have hk:(σ'.kill (aj vs)).h=(σ.kill (aj vs)).h:=r7 _ he
       simp only [af,ae,ha.evs,hvs,he,hus,hk,Fs]
       exact ⟨h1,h2,hK'⟩
     · rename_i hpn
       unfold wv at h
       split at h
       · rename_i ms us hms hus
         obtain ⟨h1,h2,h3,h4⟩:=h
         refine ⟨_,_,fun h=>absurd h (by simp [Act'.kind]),fun h=>absurd h (by simp [Act'.kind]),h4,fun σ' K' ha hf hK'=>?_⟩
         simp only [Act'.rds] at ha
         have he:=hf.heq (show 2≤(Act'.ltr e sz xs).kind by simp [Act'.kind])
         have hms':σ'.pl?=some ms:=by simp only [St.pl?,he]; exact hms
         simp only [af,ae,ha.evs,hvs,he,hpn,wv,hms',hus]
         refine ⟨h1,h2,h3,?_⟩
         simp only [St.setP,he]
         exact hK'
       · exact h.elim
   · exact h.elim
 | apz y e sz by'=>
   simp only [af,ae] at h
   split at h
   · rename_i v hv
     split at h
     · rename_i sz' l hl
       obtain ⟨h1,h2,h3⟩:=h
       refine ⟨σ.h,.seq sz l,fun _=>rfl,fun _ _ _ h=>h,h3,fun σ' K' ha hf hK'=>?_⟩
       simp only [Act'.rds] at ha
       simp only [af,ae,ha.ev,hv,(hf.ext rfl).src hl]
       exact ⟨h1,h2,hK'⟩
     · exact h.elim
   · exact h.elim
 | sbq y=>
   simp only [af,ae] at h
   split at h
   · rename_i s ms hs hms
     refine ⟨_,_,fun h=>absurd h (by simp [Act'.kind]),fun h=>absurd h (by simp [Act'.kind]),h.2,fun σ' K' ha hf hK'=>?_⟩
     simp only [Act'.rds] at ha
     have he:=hf.heq (show 2≤(Act'.sbq y).kind by simp [Act'.kind])
     have hms':σ'.pl?=some ms:=by simp only [St.pl?,he]; exact hms
     simp only [af,ae,ha.ev,hs,hms']
     refine ⟨h.1,?_⟩
     simp only [St.setP,he]
     exact hK'
   · exact h.elim
 | aps x y e=>
   simp only [af,ae] at h
   split at h
   · rename_i k j n i0 o0 s hx hs
     unfold qH at h
     split at h
     · rename_i ms hms
       split at h
       · rename_i e0 s0 hj
         obtain ⟨h1,h2,h3,h4,h5⟩:=h
         refine ⟨_,_,fun h=>absurd h (by simp [Act'.kind]),fun h=>absurd h (by simp [Act'.kind]),h5,fun σ' K' ha hf hK'=>?_⟩
         simp only [Act'.rds] at ha
         have he:=hf.heq (show 2≤(Act'.aps x y e).kind by simp [Act'.kind])
         have hms':σ'.pl?=some ms:=by simp only [St.pl?,he]; exact hms
         simp only [af,ae,ha.l.ev,hx,ha.r.ev,hs,qH,hms',hj]
         refine ⟨h1,h2,h3,h4,?_⟩
         simp only [St.setP,he]
         exact hK'
       · exact h.elim
     · exact h.elim
   · exact h.elim
 | apb x y e=>
   simp only [af,ae] at h
   split at h
   · rename_i k j n i0 o0 v hx hs
     split at h
     · rename_i s hsrc
       unfold qH at h
       split at h
       · rename_i ms hms
         split at h
         · rename_i e0 s0 hj
           obtain ⟨h1,h2,h3,h4,h5⟩:=h
           refine ⟨_,_,fun h=>absurd h (by simp [Act'.kind]),fun h=>absurd h (by simp [Act'.kind]),h5,fun σ' K' ha hf hK'=>?_⟩
           simp only [Act'.rds] at ha
           have he:=hf.heq (show 2≤(Act'.apb x y e).kind by simp [Act'.kind])
           have hms':σ'.pl?=some ms:=by simp only [St.pl?,he]; exact hms
           have hsrc':Bl σ' v=some s:=by simp only [Bl,he]; exact hsrc
           simp only [af,ae,ha.l.ev,hx,ha.r.ev,hs,hsrc',qH,hms',hj]
           refine ⟨h1,h2,h3,h4,?_⟩
           simp only [St.setP,he]
           exact hK'
         · exact h.elim
       · exact h.elim
     · exact h.elim
   · exact h.elim
 | alb t e z=>
   simp only [af,ae] at h
   split at h
   · rename_i ms hms
     refine ⟨_,_,fun h=>absurd h (by simp [Act'.kind]),fun h=>absurd h (by simp [Act'.kind]),h.2,fun σ' K' ha hf hK'=>?_⟩
     have he:=hf.heq (show 2≤(Act'.alb t e z).kind by simp [Act'.kind])
     have hms':σ'.pl?=some ms:=by simp only [St.pl?,he]; exact hms
     simp only [af,ae,hms']
     refine ⟨h.1,?_⟩
     simp only [St.setP,he]
     exact hK'
   · exact h.elim
 | usd x=>
   simp only [af,ae] at h
   split at h
   · rename_i k j n i0 o0 ms hx hms
     split at h
     · rename_i e0 s hj
       obtain ⟨h1,h2,h3⟩:=h
       refine ⟨σ.h,_,fun _=>rfl,fun _ _ _ h=>h,h3,fun σ' K' ha hf hK'=>?_⟩
       simp only [Act'.rds] at ha
       simp only [af,ae,ha.ev,hx,(hf.ext rfl).pl hms,hj]
       exact ⟨h1,h2,hK'⟩
     · exact h.elim
   · exact h.elim
 | ust p n e=>
   simp only [af,ae] at h
   split at h
   · rename_i m hp hn
     refine ⟨σ.h,_,fun h=>absurd h (by simp [Act'.kind]),fun h=>absurd h (by simp [Act'.kind]),h.2,fun σ' K' ha hf hK'=>?_⟩
     simp only [Act'.rds] at ha
     have he:=hf.heq (show 2≤(Act'.ust p n e).kind by simp [Act'.kind])
     simp only [af,ae,ha.l.ev,hp,ha.r.ev,hn]
     refine ⟨h.1,?_⟩
     simp only [post,show ¬(Act'.ust p n e).kind≤1 by simp [Act'.kind],if_false] at hK'
     rw [←he] at hK'
     exact hK'
   · rename_i k j m i0 o0 q hp hn
     split at h
     · rename_i ms hms
       split at h
       · rename_i e0 s hj
         obtain ⟨h1,h2,h3,h4,h5,h6,h7,h8,h9⟩:=h
         refine ⟨_,_,fun h=>absurd h (by simp [Act'.kind]),fun h=>absurd h (by simp [Act'.kind]),h9,fun σ' K' ha hf hK'=>?_⟩
         simp only [Act'.rds] at ha
         have he:=hf.heq (show 2≤(Act'.ust p n e).kind by simp [Act'.kind])
         have hms':σ'.pl?=some ms:=by simp only [St.pl?,he]; exact hms
         simp only [af,ae,ha.l.ev,hp,ha.r.ev,hn,hms',hj]
         refine ⟨h1,h2,h3,h4,h5,h6,h7,h8,?_⟩
         simp only [St.setP,he]
         exact hK'
       · exact h.elim
     · exact h.elim
   · exact h.elim
 | del kt x k=>
   simp only [af,ae] at h
   split at h
   · rename_i id n kv h1 h2
     split at h
     · rename_i kt' l hm
       obtain ⟨g1,g2,g5⟩:=h
       refine ⟨_,_,fun h=>absurd h (by simp [Act'.kind]),fun h=>absurd h (by simp [Act'.kind]),g5,fun σ' K' hg hf hK'=>?_⟩
       simp only [Act'.rds] at hg
       have he:=hf.heq (show 2≤(Act'.del kt x k).kind by simp [Act'.kind])
       have hm':σ'.mp? id=some (kt',l):=by simp only [St.mp?,he]; exact hm
       simp only [af,ae,hg.l.ev,h1,hg.r.ev,h2,hm']
       rw [he]
       exact ⟨g1,g2,hK'⟩
     · exact h.elim
   · exact h.elim
 | alq z=>
   simp only [af,ae] at h
   split at h
   · rename_i ms z' hms hz
     refine ⟨_,_,fun h=>absurd h (by simp [Act'.kind]),fun h=>absurd h (by simp [Act'.kind]),h,fun σ' K' ha hf hK'=>?_⟩
     have he:=hf.heq (show 2≤(Act'.alq z).kind by simp [Act'.kind])
     have hms':σ'.pl?=some ms:=by simp only [St.pl?,he]; exact hms
     simp only [af,ae,hms',hz]
     simp only [St.setP,he]
     exact hK'
   · exact h.elim
 | cvb x=>
   simp only [af,ae] at h
   split at h
   · rename_i id n hv
     split at h
     · rename_i e' sz l ha
       obtain ⟨h1,h2,h3,h4⟩:=h
       refine ⟨_,_,fun h=>absurd h (by simp [Act'.kind]),fun h=>absurd h (by simp [Act'.kind]),h4,fun σ' K' hg hf hK'=>?_⟩
       simp only [Act'.rds] at hg
       have he:=hf.heq (show 2≤(Act'.cvb x).kind by simp [Act'.kind])
       have ha':σ'.arr? id=some (e',sz,l):=by simp only [St.arr?,he]; exact ha
       simp only [af,ae,hg.ev,hv,ha']
       rw [he]
       exact ⟨h1,h2,h3,hK'⟩
     · exact h.elim
   · exact h.elim
 | bxq x=>
   simp only [af,ae] at h
   split at h
   · rename_i p hp
     obtain ⟨pσ,pv⟩:=p
     have hr:pσ.r=σ.r:=by
      simp only [xJ] at hp
      split at hp
      · split at hp
        · split at hp
          · cases hp; rfl
          · cases hp
        · cases hp
      · cases hp
     have hr':pσ=⟨σ.r,pσ.h⟩:=by rw [←hr]
     simp only at h
     rw [hr'] at h
     refine ⟨_,_,fun h=>absurd h (by simp [Act'.kind]),fun h=>absurd h (by simp [Act'.kind]),h,fun σ' K' ha hf hK'=>?_⟩
     have he:=hf.heq (show 2≤(Act'.bxq x).kind by simp [Act'.kind])
     simp only [Act'.rds] at ha
     have hb:xJ σ' x=(xJ σ x).map fun q=>({ q.1 with r:=σ'.r },q.2):=by
      have e2:σ'.pl?=σ.pl?:=by simp only [St.pl?,he]
      simp only [xJ,ha.ev,e2]
      cases σ.ev x with
      | none=>rfl
      | some v=>
        cases σ.pl? with
        | none=>rfl
        | some ms=>
          by_cases hn:nt v=true
          · simp only [if_pos hn]
            cases lE (cl v) with
            | none=>rfl
            | some z=>simp [St.setP,he]
          · simp only [if_neg hn]
            rfl
     simp only [af,ae,hb,hp,Option.map_some]
     exact hK'
   · exact h.elim
 | mkq e sz by' z n=>
   simp only [af,ae] at h
   split at h
   · rename_i k m ms z' hn hms hz
     obtain ⟨h1,h2,h3⟩:=h
     refine ⟨_,_,fun h=>absurd h (by simp [Act'.kind]),fun h=>absurd h (by simp [Act'.kind]),h3,fun σ' K' ha hf hK'=>?_⟩
     simp only [Act'.rds] at ha
     have he:=hf.heq (show 2≤(Act'.mkq e sz by' z n).kind by simp [Act'.kind])
     have hms':σ'.pl?=some ms:=by simp only [St.pl?,he]; exact hms
     simp only [af,ae,ha.ev,hn,hms',hz]
     refine ⟨h1,h2,?_⟩
     simp only [St.setP,he]
     exact hK'
   · exact h.elim
 | mkp kt=>
   simp only [af,ae] at h
   refine ⟨_,_,fun h=>absurd h (by simp [Act'.kind]),fun _ id ob h=>bL h,h,fun σ' K' ha hf hK'=>?_⟩
   simp only [af,ae]
   rw [hf.heq (by simp [Act'.kind])]
   exact hK'
 | mup kt x k v=>
   simp only [af,ae] at h
   split at h
   · rename_i id n kv u h1 h2 h3
     split at h
     · rename_i kt' l u' hm hp
       obtain ⟨g1,g2,g3,g4,g5⟩:=h
       refine ⟨_,_,fun h=>absurd h (by simp [Act'.kind]),fun h=>absurd h (by simp [Act'.kind]),g5,fun σ' K' hg hf hK'=>?_⟩
       simp only [Act'.rds] at hg
       have he:=hf.heq (show 2≤(Act'.mup kt x k v).kind by simp [Act'.kind])
       have hm':σ'.mp? id=some (kt',l):=by simp only [St.mp?,he]; exact hm
       simp only [af,ae,hg.l.ev,h1,hg.r.l.ev,h2,hg.r.r.ev,h3,hm']
       rw [he]
       simp only [hp]
       exact ⟨g1,g2,g3,g4,hK'⟩
     · exact h.elim
   · exact h.elim
 | _=>
   simp only [af,ae] at h
   split at h
   · rename_i v hv
     exact J3 (by simp only [Act'.kind]; decide) hv h
   · exact h.elim
theorem gR {x:AOp} (h:aF Φ x K σ):Dx (aF Φ x) x.a.kind x.rds x.d σ K:=by
 have sk:(∀ σ' (K':St→Prop),Agr σ σ' x.rds→K' (σ'.put x.d (.tup []))→aF Φ x K' σ')→K (σ.put x.d (.tup []))→Dx (aF Φ x) 0 x.rds x.d σ K:=
  fun h1 h2=>⟨σ.h,.tup [],fun _=>rfl,fun _ _ _ h=>h,h2,fun σ' K' ha _ hK'=>h1 σ' K' ha hK'⟩
 have up:∀ {T:(St→Prop)→St→Prop},Dx T 0 x.rds x.d σ K→Dx T x.a.kind x.rds x.d σ K:=by
  rintro T ⟨h',v,h1,_,h3,h4⟩
  have e:=h1 (by decide)
  subst e
  refine ⟨σ.h,v,fun _=>rfl,fun _ _ _ h=>h,h3,fun σ' K' ha hf hK'=>h4 σ' K' ha (.inl rfl) ?_⟩
  simp only [post,Nat.zero_le,if_true] at hK' ⊢
  split at hK'
  · exact hK'
  · rw [hf.heq (by omega)]
    exact hK'
 have lift:∀ {T:(St→Prop)→St→Prop} {rs:List Nat},Dx (af Φ x.d x.a) x.a.kind rs x.d σ K→(∀ t,t∈rs→t∈x.rds)→(∀ σ' K',Agr σ σ' x.rds→af Φ x.d x.a K' σ'→T K' σ')→Dx T x.a.kind x.rds x.d σ K:=by
  rintro T rs ⟨h',v,h1,h2,h3,h4⟩ hs hT
  exact ⟨h',v,h1,h2,h3,fun σ' K' ha hf hK'=>hT _ _ ha (h4 σ' K' (ha.sub hs) hf hK')⟩
 have hsub:∀ t,t∈x.a.rds→t∈x.rds:=fun t ht=>List.mem_append_left _ ht
 unfold aF at h
 cases hg:x.g with
 | none=>
   simp only [hg] at h
   refine lift (tP h) hsub fun σ' K' _ h'=>?_
   unfold aF
   simp only [hg]; exact h'
 | some tb=>
   obtain ⟨t,b⟩:=tb
   have ht:t∈x.rds:=by simp [AOp.rds,hg]
   simp only [hg] at h
   split at h
   · rename_i y hy
     have hgo:∀ σ' (K':St→Prop),Agr σ σ' x.rds→y=b→af Φ x.d x.a K' σ'→aF Φ x K' σ':=by
      intro σ' K' ha hyb h'
      subst hyb
      unfold aF
      simp only [hg,ha t ht,hy]
      cases y<;>simp [Br,h']
     have hsk:∀ σ' (K':St→Prop),Agr σ σ' x.rds→y≠b→K' (σ'.put x.d (.tup []))→aF Φ x K' σ':=by
      intro σ' K' ha hyb h'
      unfold aF
      simp only [hg,ha t ht,hy]
      cases y<;>cases b<;>first | exact absurd rfl hyb | simp [Br,h']
     by_cases hyb:y=b
     · have h':af Φ x.d x.a K σ:=by subst hyb; cases y<;>simp [Br] at h<;>exact h
       exact lift (tP h') hsub fun σ' K' ha h''=>hgo σ' K' ha hyb h''
     · have h':K (σ.put x.d (.tup [])):=by cases y<;>cases b<;>first | exact absurd rfl hyb | (simp [Br] at h; exact h)
       exact up (sk (fun σ' K' ha h''=>hsk σ' K' ha hyb h'') h')
   · rename_i hy
     refine up (sk (fun σ' K' ha h''=>?_) h)
     unfold aF
     simp only [hg,ha t ht,hy]
     exact h''
   · exact h.elim
def Eqv (σ τ:St):Prop:=τ.h=σ.h∧∀ t,lk τ.r t=lk σ.r t
def Inv (R:St→Prop):Prop:=∀ σ τ,Eqv σ τ→R σ→R τ
theorem zQ (σ:St) (h':List (Option Ob)) (d:Option Nat) (v:V) (t:Nat):lk (St.put { σ with h:=h' } d v).r t=if d=some t then some v else lk σ.r t:=by
 cases d with
 | none=>simp [St.put]
 | some k=>simp only [St.put,lk,Option.some.injEq]
theorem sc (σ:St) (d:Option Nat) (v:V):(σ.put d v).h=σ.h:=by cases d<;>rfl
theorem In {x:AOp} {R:St→Prop} (hR:Inv R):Inv (aF Φ x R):=by
 intro σ τ he h
 obtain ⟨h',v,h1,h2,h3,h4⟩:=gR h
 refine h4 τ R (fun t _=>he.2 t) (.inr (.inr he.1)) (hR _ _ ⟨?_,fun t=>?_⟩ h3)
 · simp only [post,sc]
   split
   · rename_i hk; rw [h1 hk]; exact he.1
   · rfl
 · simp only [post,zQ,he.2]
def rB (x y:AOp):Bool:=
 (match x.d with
  | some d=>!(fd d y.rds) && decide (y.d≠some d)
  | none=>true) &&
 (match y.d with
  | some d=>!(fd d x.rds)
  | none=>true) &&
 (x.a.kind == 0 || y.a.kind == 0 || (x.a.kind == 1 && decide (y.a.kind≤2)))
theorem Do {x y:AOp} (h:rB x y=true):
 (∀ d,x.d=some d→d ∉ y.rds∧y.d≠some d)∧(∀ d,y.d=some d→d ∉ x.rds)∧(x.a.kind=0∨y.a.kind=0∨(x.a.kind=1∧y.a.kind≤2)):=by
 simp only [rB,Bool.and_eq_true] at h
 obtain ⟨⟨h1,h2⟩,h3⟩:=h
 refine ⟨fun d hd=>?_,fun d hd=>?_,by simpa [or_assoc] using h3⟩
 · simp only [hd,Bool.and_eq_true,Bool.not_eq_true',decide_eq_true_eq] at h1
   exact ⟨fun hm=>by rw [fO.2 hm] at h1; simp at h1,h1.2⟩
 · simp only [hd,Bool.not_eq_true'] at h2
   exact fun hm=>by rw [fO.2 hm] at h2; simp at h2
theorem FV {x y:AOp} (hap:rB x y=true) {R:St→Prop} (hR:Inv R) (h:aF Φ x (aF Φ y R) σ):aF Φ y (aF Φ x R) σ:=by
 obtain ⟨a1,a2,a3⟩:=Do hap
 obtain ⟨hx,vx,x1,x2,x3,x4⟩:=gR h
 obtain ⟨hy,vy,y1,y2,y3,y4⟩:=gR x3
 rw [sc] at y1 y2
 have key:Eqv (St.put { (St.put { σ with h:=hx } x.d vx) with h:=hy } y.d vy) (post x.a.kind (post y.a.kind σ hy y.d vy) hx x.d vx)→aF Φ y (aF Φ x R) σ:=by
  intro he
  refine y4 σ _ ?_ ?_ ?_
  · intro t ht
    rw [zQ]
    split
    · rename_i hd; exact absurd ht (a1 t hd).1
    · rfl
  · rcases a3 with h | h | h
    · refine .inr (.inr ?_); rw [sc]; exact (x1 (by omega)).symm
    · exact .inl h
    · refine .inr (.inr ?_); rw [sc]; exact (x1 (by omega)).symm
  · refine x4 _ _ ?_ ?_ (hR _ _ he y3)
    · intro t ht
      simp only [post,zQ]
      split
      · rename_i hd; exact absurd ht (a2 t hd)
      · rfl
    · rcases a3 with h | h | h
      · exact .inl h
      · refine .inr (.inr ?_)
        simp only [post,sc,h,Nat.zero_le,if_true]
      · by_cases hk:y.a.kind≤1
        · refine .inr (.inr ?_)
          simp only [post,sc,if_pos hk]
        · refine .inr (.inl ⟨h.1,?_⟩)
          intro id ob hid
          simp only [post,sc,if_neg hk]
          exact y2 (by omega) id ob (by rw [x1 (by omega)]; exact hid)
 apply key
 constructor
 · simp only [post,sc]
   rcases a3 with h | h | h
   · rw [if_pos (by omega)]
     split
     · rename_i hk; rw [y1 hk,x1 (by omega)]
     · rfl
   · simp only [h,Nat.zero_le,if_true]
     rw [y1 (by omega)]
     split
     · rename_i hk; rw [x1 hk]
     · rfl
   · rw [if_pos (by omega)]
     split
     · rename_i hk; rw [y1 hk,x1 (by omega)]
     · rfl
 · intro t
   simp only [post,zQ]
   by_cases hxd:x.d=some t
   · rw [if_pos hxd,if_neg (a1 t hxd).2,if_pos hxd]
   · simp only [if_neg hxd]
end
end Go.Abs
end
section
namespace Go.Abs
open Go.RowKit
section
variable {P:Program} {N:Nat} {M0:Mem} {B:Bas} {w0:World} {Φ:Ctr}
theorem gQ {x:AOp} {σ:St} {K K':St→Prop} (h:aF Φ x K σ) (hk:∀ τ,K τ→K' τ):aF Φ x K' σ:=by
 obtain ⟨h',v,h1,h2,h3,h4⟩:=gR h
 refine h4 σ K' (fun _ _=>rfl) (.inr (.inr rfl)) (hk _ ?_)
 simp only [post]
 split
 · rename_i hle; rw [h1 hle] at h3; exact h3
 · exact h3
mutual
theorem BF:∀ {v u:V},pur [] v=some u→aw v=[]∧∀ h,pur h v=some u
 | .nil sz,_,hv=>⟨rfl,fun h=>by simpa only [pur] using hv⟩
 | .ref id n,_,hv=>by simp [pur,pur1] at hv
 | .strct cs,_,hv=>by
   simp only [pur,Option.map_eq_some_iff] at hv
   obtain ⟨us,h1,h2⟩:=hv
   obtain ⟨k1,k2⟩:=d6 h1
   exact ⟨by simpa only [aw] using k1,fun h=>by simp only [pur,k2 h,Option.map_some,h2]⟩
 | .tup cs,_,hv=>by
   simp only [pur,Option.map_eq_some_iff] at hv
   obtain ⟨us,h1,h2⟩:=hv
   obtain ⟨k1,k2⟩:=d6 h1
   exact ⟨by simpa only [aw] using k1,fun h=>by simp only [pur,k2 h,Option.map_some,h2]⟩
 | .fn f a b,_,hv=>by
   simp only [pur] at hv
   split at hv
   · rename_i a' b' h1 h2
     obtain ⟨k1,k2⟩:=d6 h1
     obtain ⟨k3,k4⟩:=d6 h2
     exact ⟨by simp only [aw,k1,k3,List.append_nil],fun h=>by simp only [pur,k2 h,k4 h]; exact hv⟩
   · cases hv
 | .iface t x,_,hv=>by
   simp only [pur,Option.map_eq_some_iff] at hv
   obtain ⟨us,h1,h2⟩:=hv
   obtain ⟨k1,k2⟩:=BF h1
   exact ⟨by simpa only [aw] using k1,fun h=>by simp only [pur,k2 h,Option.map_some,h2]⟩
 | .ptr _ _,_,hv=>by simp only [pur] at hv; cases hv
 | .eptr _ _ _ _,_,hv=>by simp only [pur] at hv; cases hv
 | .int _ _,_,hv=>⟨rfl,fun h=>by simpa only [pur] using hv⟩
 | .bool _,_,hv=>⟨rfl,fun h=>by simpa only [pur] using hv⟩
 | .str _,_,hv=>⟨rfl,fun h=>by simpa only [pur] using hv⟩
 | .seq _ _,_,hv=>⟨rfl,fun h=>by simpa only [pur] using hv⟩
 | .fseq _ _,_,hv=>⟨rfl,fun h=>by simpa only [pur] using hv⟩
 | .sptr _ _,_,hv=>⟨rfl,fun h=>by simpa only [pur] using hv⟩
 | .nilptr,_,hv=>⟨rfl,fun h=>by simpa only [pur] using hv⟩
 | .nilfn,_,hv=>⟨rfl,fun h=>by simpa only [pur] using hv⟩
 | .nilmp,_,hv=>⟨rfl,fun h=>by simpa only [pur] using hv⟩
 | .niliface,_,hv=>⟨rfl,fun h=>by simpa only [pur] using hv⟩
 | .junk,_,hv=>⟨rfl,fun h=>by simpa only [pur] using hv⟩
theorem d6:∀ {v u:List V},purs [] v=some u→aj v=[]∧∀ h,purs h v=some u
 | [],_,hv=>⟨rfl,fun h=>by simpa only [purs] using hv⟩
 | v::vs,_,hv=>by
   simp only [purs] at hv
   split at hv
   · rename_i a' b' h1 h2
     obtain ⟨k1,k2⟩:=BF h1
     obtain ⟨k3,k4⟩:=d6 h2
     exact ⟨by simp only [aj,k1,k3,List.append_nil],fun h=>by simp only [purs,k2 h,k4 h]; exact hv⟩
   · cases hv
end
theorem nY {d:Option Nat} {a:Act'} {K:St→Prop} {σ:St} (h:af Φ d a K σ):ae Φ d a K σ:=by
 cases a with
 | lit e0 sz xs=>
   simp only [af] at h
   split at h
   · rename_i vs hvs
     split at h
     · rename_i us hus
       obtain ⟨k1,k2⟩:=d6 hus
       simp only [ae,hvs,k2 σ.h,k1,St.kill]
       exact h
     · exact h.elim
   · exact h.elim
 | call f xs=>
   simp only [af] at h
   split at h
   · rename_i vs hvs
     split at h
     · rename_i us hus
       obtain ⟨r,h1,h3⟩:=h
       simp only [ae,hvs,hus]
       exact ⟨r,.inl ⟨h1,fun _=>h3⟩⟩
     · exact h.elim
   · exact h.elim
 | callH f xs=>
   simp only [af] at h
   split at h
   · rename_i vs hvs
     simp only [ae,hvs]
     obtain ⟨ps,h1,r,H',h2,h3,h4⟩ | ⟨r,hz,h4⟩:=h
     · exact .inl ⟨ps,h1,r,H',h2,h3,fun _ _=>h4⟩
     · exact .inr (.inr (.inl ⟨r,hz,fun _=>h4⟩))
   · exact h.elim
 | inv tbl x xs=>
   simp only [af] at h
   split at h
   · rename_i t v vs hx hvs
     split at h
     · rename_i f hf
       split at h
       · rename_i us hus
         obtain ⟨r,h1,h3⟩:=h
         simp only [ae,hx,hvs,hf,hus]
         exact ⟨r,.inl ⟨h1,fun _=>h3⟩⟩
       · exact h.elim
     · exact h.elim
   · exact h.elim
 | ivp tbl x xs=>exact (show False from h).elim
 | trc x hi sz=>exact (show False from h).elim
 | callv g xs=>
   simp only [af] at h
   split at h
   · rename_i f a b vs hg hvs
     split at h
     · rename_i us hus
       obtain ⟨r,h1,h3⟩:=h
       simp only [ae,hg,hvs,hus]
       exact ⟨r,.inl ⟨h1,fun _=>h3⟩⟩
     · exact h.elim
   · exact h.elim
 | app x y e sz by'=>
   simp only [af] at h
   split at h
   · split at h
     · exact h.elim
     · exact h
   · exact h.elim
 | _=>exact h
theorem Il {x:AOp} {K:St→Prop} {σ:St} (h:aF Φ x K σ):wop Φ x K σ:=by
 unfold aF at h
 unfold wop
 split at h
 · exact nY h
 · split at h
   · split
     · rename_i hb; rw [if_pos hb] at h; exact ⟨fun hy=>nY (h.1 hy),h.2⟩
     · rename_i hb; rw [if_neg hb] at h; exact ⟨h.1,fun hy=>nY (h.2 hy)⟩
   · exact h
   · exact h
def oY (Φ:Ctr) (ops:Array Oper) (xs:List AOp) (K:St→Prop):Nat→Array Bool→St→Prop
 | 0,listed,σ=>Region.ready .any ops listed=[]∧K σ
 | f + 1,listed,σ=>(Region.ready .any ops listed=[]→K σ)∧∀ i∈Region.ready .any ops listed,∃ x,xs[i]?=some x∧aF Φ x (oY Φ ops xs K f (listed.setIfInBounds i true)) σ
def Fc (Φ:Ctr) (ops:Array Oper) (xs:List AOp) (K:St→Prop):Nat→Array Bool→St→Prop
 | 0,listed,σ=>Region.ready .any ops listed=[]∧K σ
 | f + 1,listed,σ=>(Region.ready .any ops listed=[]→K σ)∧∀ i∈Region.ready .any ops listed,∃ x,xs[i]?=some x∧wop Φ x (Fc Φ ops xs K f (listed.setIfInBounds i true)) σ
variable {ops:Array Oper} {xs:List AOp} {K:St→Prop}
theorem xP (hK:Inv K):∀ (f:Nat) (listed:Array Bool),Inv (oY Φ ops xs K f listed)
 | 0,listed=>fun σ τ he h=>⟨h.1,hK σ τ he h.2⟩
 | f + 1,listed=>fun σ τ he h=>⟨fun h0=>hK σ τ he (h.1 h0),fun i hi=>by
   obtain ⟨x,hx,hw⟩:=h.2 i hi
   exact ⟨x,hx,In (xP hK f _) σ τ he hw⟩⟩
def oS (ops:Array Oper) (listed:Array Bool):Prop:=∀ j oj,ops[j]?=some oj→listed.getD j false=true→∀ e∈oj.after,Region.binds .any e=true→listed.getD e.on false=true
def te (anc:List Nat) (j i:Nat):Bool:=decide (i < j) && Nat.testBit (anc.getD j 0) i
def y8 (ops:Array Oper) (anc:List Nat):Prop:=∀ j i oj,ops[j]?=some oj→te anc j i=true→∃ e∈oj.after,Region.binds .any e=true∧e.on < j∧(e.on=i∨te anc e.on i=true)
theorem oS.set {listed:Array Bool} {i:Nat} (h:oS ops listed) (hi:i∈Region.ready .any ops listed):oS ops (listed.setIfInBounds i true):=by
 obtain ⟨_,oi,hoi,hall⟩:=mem_ready.1 hi
 intro j oj hj hl e he hb
 by_cases hij:i=j
 · subst hij
   have:oj=oi:=Option.some.inj (hj.symm.trans hoi)
   subst this
   exact getD_set_true (hall e he hb)
 · rw [getD_set_ne false hij] at hl
   exact getD_set_true (h j oj hj hl e he hb)
theorem y8.listed {anc:List Nat} (ha:y8 ops anc) {listed:Array Bool} (hc:oS ops listed) {i:Nat}:∀ (j:Nat) (oj:Oper),ops[j]?=some oj→(∀ e∈oj.after,Region.binds .any e=true→listed.getD e.on false=true)→
 te anc j i=true→(∀ e o',e < ops.size→ops[e]?=some o'→True)→(∀ e∈oj.after,Region.binds .any e=true→e.on < j→∃ o',ops[e.on]?=some o')→listed.getD i false=true:=by
 intro j
 induction j using Nat.strongRecOn with
 | _ j ih=>
   intro oj hj hp hanc _ hex
   obtain ⟨e,he,hb,hlt,h⟩:=ha j i oj hj hanc
   have hl:=hp e he hb
   rcases h with h | h
   · rw [←h]; exact hl
   · obtain ⟨o',ho'⟩:=hex e he hb hlt
     refine ih e.on hlt o' ho' (fun e' he' hb'=>hc e.on o' ho' hl e' he' hb') h (fun _ _ _ _=>trivial) (fun e' he' hb' hlt'=>?_)
     have hs:e'.on < ops.size:=by
      have:=(Array.getElem?_eq_some_iff.1 ho').1
      omega
     exact ⟨ops[e'.on],by simp [hs]⟩
theorem rI {anc:List Nat} (ha:y8 ops anc) (hK:Inv K) {i:Nat} {x:AOp} (hi:xs[i]?=some x):
 ∀ (f:Nat) (listed:Array Bool) (σ:St),oS ops listed→
   (∀ j y,xs[j]?=some y→j≠i→listed.getD j true=false→te anc j i=false→rB x y=true)→
   i∈Region.ready .any ops listed→aF Φ x (oY Φ ops xs K f (listed.setIfInBounds i true)) σ→oY Φ ops xs K (f + 1) listed σ:=by
 intro f
 induction f with
 | zero=>
   intro listed σ _ _ hr H
   refine ⟨fun h=>(by rw [h] at hr; cases hr),fun j hj=>?_⟩
   by_cases hji:j=i
   · subst hji; exact ⟨x,hi,H⟩
   · obtain ⟨h',v,_,_,h3,_⟩:=gR H
     have:=ready_mono hj hji
     rw [h3.1] at this
     cases this
 | succ f ih=>
   intro listed σ hc hfree hr H
   refine ⟨fun h=>(by rw [h] at hr; cases hr),fun j hj=>?_⟩
   by_cases hji:j=i
   · subst hji; exact ⟨x,hi,H⟩
   · obtain ⟨h',v,_,_,h3,_⟩:=gR H
     obtain ⟨y,hy,_⟩:=h3.2 j (ready_mono hj hji)
     obtain ⟨hjun,oj,hoj,hall⟩:=mem_ready.1 hj
     have hiun:=(mem_ready.1 hr).1
     have hnot:te anc j i=false:=by
      cases hb:te anc j i with
      | false=>rfl
      | true=>
        have hs:j < ops.size:=(Array.getElem?_eq_some_iff.1 hoj).1
        have:=ha.listed hc j oj hoj hall hb (fun _ _ _ _=>trivial) (fun e _ _ hlt=>⟨ops[e.on]'(by omega),by simp⟩)
        rcases Nat.lt_or_ge i listed.size with h' | h'
        · simp [h'] at hiun this; rw [hiun] at this; cases this
        · simp [Array.getElem?_eq_none h'] at this
     have H':aF Φ x (aF Φ y (oY Φ ops xs K f ((listed.setIfInBounds i true).setIfInBounds j true))) σ:=gQ H fun τ hτ=>by
      obtain ⟨y',hy',hw⟩:=hτ.2 j (ready_mono hj hji)
      rw [hy] at hy'
      cases hy'
      exact hw
     have H2:=FV (hfree j y hy hji hjun hnot) (xP hK f _) H'
     refine ⟨y,hy,gQ H2 fun τ hτ=>ih (listed.setIfInBounds j true) τ (hc.set hj) ?_ (ready_mono hr (Ne.symm hji)) ?_⟩
     · intro k z hz hki hun hno
       refine hfree k z hz hki ?_ hno
       by_cases hjk:j=k
       · subst hjk; exact hjun
       · rw [getD_set_ne true hjk] at hun; exact hun
     · rw [Array.setIfInBounds_comm _ _ hji]
       exact hτ
def zw (ops:Array Oper) (xs:List AOp) (anc:List Nat):List Nat→Bool
 | []=>true
 | i::l=>!(fd i l) &&
   (match ops[i]? with
    | some o=>o.after.toList.all fun e=>!(Region.binds .any e) || (decide (e.on < ops.size) && !(fd e.on (i::l)))
    | none=>false) &&
   (match xs[i]? with
    | some x=>l.all fun j=>te anc j i || (match xs[j]? with
      | some y=>rB x y
      | none=>false)
    | none=>false) && zw ops xs anc l
def rl (ops:Array Oper) (xs:List AOp) (anc perm:List Nat):Bool:=
 decide (ops.size=xs.length) && decide (perm.length=ops.size) &&
 ((List.range ops.size).all fun j=>fd j perm) &&
 ((List.range ops.size).all fun j=>match ops[j]? with
   | some o=>o.after.toList.all fun e=>!(Region.binds .any e) || decide (e.on < j)
   | none=>true) &&
 ((List.range ops.size).all fun j=>match ops[j]? with
   | some o=>(List.range j).all fun i=>!(Nat.testBit (anc.getD j 0) i) || o.after.toList.any fun e=>Region.binds .any e && (decide (e.on=i) || te anc e.on i)
   | none=>true) && zw ops xs anc perm
def gn (xs:List AOp):List Nat→Option (List AOp)
 | []=>some []
 | i::l=>match xs[i]?,gn xs l with
   | some x,some ys=>some (x::ys)
   | _,_=>none
theorem EQ {anc perm:List Nat} (hd:rl ops xs anc perm=true):y8 ops anc:=by
 simp only [rl,Bool.and_eq_true,decide_eq_true_eq] at hd
 obtain ⟨⟨⟨⟨⟨hsz,hpl⟩,hall⟩,hed⟩,hanc⟩,hap⟩:=hd
 intro j i oj hj hb
 simp only [te,Bool.and_eq_true,decide_eq_true_eq] at hb
 have hs:j < ops.size:=(Array.getElem?_eq_some_iff.1 hj).1
 have h1:=List.all_eq_true.1 hanc j (List.mem_range.2 hs)
 simp only [hj] at h1
 have h2:=List.all_eq_true.1 h1 i (List.mem_range.2 hb.1)
 simp only [hb.2,Bool.not_true,Bool.false_or] at h2
 obtain ⟨e,he,h3⟩:=List.any_eq_true.1 h2
 simp only [Bool.and_eq_true,Bool.or_eq_true,decide_eq_true_eq] at h3
 have h4:=List.all_eq_true.1 hed j (List.mem_range.2 hs)
 simp only [hj] at h4
 have h5:=List.all_eq_true.1 h4 e he
 simp only [h3.1,Bool.not_true,Bool.false_or,decide_eq_true_eq] at h5
 exact ⟨e,by simpa using he,h3.1,h5,h3.2⟩
theorem FX {anc:List Nat} (ha:y8 ops anc) (hK:Inv K):∀ (l:List Nat) (ys:List AOp) (listed:Array Bool) (σ:St),zw ops xs anc l=true→gn xs l=some ys→
 listed.size=ops.size→(∀ j,j < ops.size→listed.getD j false=!(fd j l))→oS ops listed→oX Φ ys K σ→oY Φ ops xs K l.length listed σ:=by
 intro l
 induction l with
 | nil=>
   intro ys listed σ _ hys hls hl hc h
   simp only [gn,Option.some.injEq] at hys
   subst hys
   refine ⟨?_,h⟩
   rw [List.eq_nil_iff_forall_not_mem]
   intro j hj
   obtain ⟨h1,o,ho,_⟩:=mem_ready.1 hj
   have hs:j < ops.size:=(Array.getElem?_eq_some_iff.1 ho).1
   have h2:=hl j hs
   have hlt:j < listed.size:=by omega
   simp [hlt,fd] at h1 h2
   rw [h1] at h2
   simp at h2
 | cons i l ih=>
   intro ys listed σ hp hys hls hl hc h
   simp only [zw,Bool.and_eq_true,Bool.not_eq_true'] at hp
   obtain ⟨⟨⟨hnd,hpre⟩,hap⟩,hrest⟩:=hp
   simp only [gn] at hys
   split at hys
   · rename_i x ys' hx hys'
     cases hys
     split at hpre
     · rename_i o ho
       have hks:i < ops.size:=(Array.getElem?_eq_some_iff.1 ho).1
       have hr:i∈Region.ready .any ops listed:=by
        refine mem_ready.2 ⟨?_,o,ho,fun e he hb=>?_⟩
        · have:=hl i hks
          have hlt:i < listed.size:=by omega
          simp [hlt,fd] at this ⊢
          exact this
        · have h5:=List.all_eq_true.1 hpre e (by simpa using he)
          simp only [hb,Bool.not_true,Bool.false_or,Bool.and_eq_true,decide_eq_true_eq] at h5
          rw [hl e.on h5.1]
          exact h5.2
       refine rI ha hK hx l.length listed σ hc ?_ hr ?_
       · intro j y hy hji hun hno
         simp only [hx] at hap
         by_cases hjs:j < ops.size
         · have h2:=hl j hjs
           have hlt:j < listed.size:=by omega
           simp [hlt] at hun h2
           rw [hun] at h2
           have h3:fd j (i::l)=true:=by
            cases hm:fd j (i::l) with
            | true=>rfl
            | false=>rw [hm] at h2; cases h2
           simp only [fd,if_neg hji] at h3
           have h4:=List.all_eq_true.1 hap j (fO.1 h3)
           simp only [hno,hy,Bool.false_or] at h4
           exact h4
         · have:¬j < listed.size:=by omega
           simp [this] at hun
       · refine gQ h fun τ hτ=>ih ys' _ τ hrest hys' (by simp [hls]) ?_ (hc.set hr) hτ
         intro j hj
         by_cases hkj:i=j
         · subst hkj
           have hlt:i < listed.size:=by omega
           simp [hlt,hnd]
         · rw [getD_set_ne false hkj,hl j hj]
           have:j≠i:=fun h=>hkj h.symm
           simp only [fd,if_neg this]
     · cases hpre
   · cases hys
theorem Dc {anc perm:List Nat} {ys:List AOp} {σ:St} (hd:rl ops xs anc perm=true) (hp:gn xs perm=some ys) (hK:Inv K) (h:oX Φ ys K σ):
 oY Φ ops xs K ops.size (Array.replicate ops.size false) σ:=by
 have ha:=EQ hd
 simp only [rl,Bool.and_eq_true,decide_eq_true_eq] at hd
 obtain ⟨⟨⟨⟨⟨hsz,hpl⟩,hall⟩,hed⟩,hanc⟩,hap⟩:=hd
 have:=FX ha hK perm ys (Array.replicate ops.size false) σ hap hp (by simp) (fun j hj=>by
  have:=List.all_eq_true.1 hall j (List.mem_range.2 hj)
  simp [hj,this]) (fun j oj hj hl=>by
  have hs:=(Array.getElem?_eq_some_iff.1 hj).1
  simp [hs] at hl) h
 rw [hpl] at this
 exact this
def ww (ops:Array Oper):Nat→Array Bool→List (List Nat)
 | 0,listed=>match Region.ready .any ops listed with
   | []=>[[]]
   | _=>[[ops.size]]
 | f + 1,listed=>match Region.ready .any ops listed with
   | []=>[[]]
   | i::r=>(i::r).flatMap fun i=>(ww ops f (listed.setIfInBounds i true)).map (i::·)
def qV:List AOp→Bool
 | []=>true
 | x::xs=>(match x.a with
   | .call _ _=>false
   | .callv _ _=>false
   | .callH _ _=>false
   | .inv _ _ _=>false
   | .ivp _ _ _=>false
   | _=>true) && qV xs
def uf (xs:List AOp):List (List Nat)→Option (List (List AOp))
 | []=>some []
 | p::ps=>match gn xs p,uf xs ps with
   | some y,some ys=>some (y::ys)
   | _,_=>none
theorem A8 {d:Option Nat} {a:Act'} (hn:(match a with | .call _ _=>false | .callv _ _=>false | .callH _ _=>false | .inv _ _ _=>false | .ivp _ _ _=>false | _=>true)=true) {σ:St} {K:St→Prop} (h:ae Φ d a K σ):∃ τ,∀ K',ae Φ d a K' σ↔K' τ:=by
 cases a with
 | call=>cases hn
 | callv=>cases hn
 | callH=>cases hn
 | inv=>cases hn
 | ivp=>cases hn
 | mkp kt=>exact ⟨_,fun K'=>Iff.rfl⟩
 | ltr e sz xs=>
   simp only [ae] at h ⊢
   split at h
   · split at h
     · exact ⟨_,fun K'=>⟨fun h=>h.2.2,fun h'=>⟨h.1,h.2.1,h'⟩⟩⟩
     · unfold wv at h ⊢
       split at h
       · exact ⟨_,fun K'=>⟨fun h=>h.2.2.2,fun h'=>⟨h.1,h.2.1,h.2.2.1,h'⟩⟩⟩
       · exact h.elim
   · exact h.elim
 | apz y e sz by'=>
   simp only [ae] at h ⊢
   split at h
   · split at h
     · exact ⟨_,fun K'=>⟨fun h=>h.2.2,fun h'=>⟨h.1,h.2.1,h'⟩⟩⟩
     · exact h.elim
   · exact h.elim
 | sbq y=>
   simp only [ae] at h ⊢
   split at h
   · exact ⟨_,fun K'=>⟨fun h=>h.2,fun h'=>⟨h.1,h'⟩⟩⟩
   · exact h.elim
 | aps x y e=>
   simp only [ae] at h ⊢
   split at h
   · unfold qH at h ⊢
     split at h
     · split at h
       · exact ⟨_,fun K'=>⟨fun h=>h.2.2.2.2,fun h'=>⟨h.1,h.2.1,h.2.2.1,h.2.2.2.1,h'⟩⟩⟩
       · exact h.elim
     · exact h.elim
   · exact h.elim
 | apb x y e=>
   simp only [ae] at h ⊢
   split at h
   · split at h
     · unfold qH at h ⊢
       split at h
       · split at h
         · exact ⟨_,fun K'=>⟨fun h=>h.2.2.2.2,fun h'=>⟨h.1,h.2.1,h.2.2.1,h.2.2.2.1,h'⟩⟩⟩
         · exact h.elim
       · exact h.elim
     · exact h.elim
   · exact h.elim
 | alb t e z=>
   simp only [ae] at h ⊢
   split at h
   · exact ⟨_,fun K'=>⟨fun h=>h.2,fun h'=>⟨h.1,h'⟩⟩⟩
   · exact h.elim
 | usd x=>
   simp only [ae] at h ⊢
   split at h
   · split at h
     · exact ⟨_,fun K'=>⟨fun h=>h.2.2,fun h'=>⟨h.1,h.2.1,h'⟩⟩⟩
     · exact h.elim
   · exact h.elim
 | ust p n e=>
   simp only [ae] at h ⊢
   split at h
   · exact ⟨_,fun K'=>⟨fun h=>h.2,fun h'=>⟨h.1,h'⟩⟩⟩
   · split at h
     · split at h
       · exact ⟨_,fun K'=>⟨fun h=>h.2.2.2.2.2.2.2.2,fun h'=>⟨h.1,h.2.1,h.2.2.1,h.2.2.2.1,h.2.2.2.2.1,h.2.2.2.2.2.1,h.2.2.2.2.2.2.1,h.2.2.2.2.2.2.2.1,h'⟩⟩⟩
       · exact h.elim
     · exact h.elim
   · exact h.elim
 | del kt x k=>
   simp only [ae] at h ⊢
   split at h
   · split at h
     · exact ⟨_,fun K'=>⟨fun h=>h.2.2,fun h'=>⟨h.1,h.2.1,h'⟩⟩⟩
     · exact h.elim
   · exact h.elim
 | cvb x=>
   simp only [ae] at h ⊢
   split at h
   · split at h
     · exact ⟨_,fun K'=>⟨fun h=>h.2.2.2,fun h'=>⟨h.1,h.2.1,h.2.2.1,h'⟩⟩⟩
     · exact h.elim
   · exact h.elim
 | bxq x=>
   simp only [ae] at h ⊢
   split at h
   · exact ⟨_,fun K'=>Iff.rfl⟩
   · exact h.elim
 | alq z=>
   simp only [ae] at h ⊢
   split at h
   · exact ⟨_,fun K'=>Iff.rfl⟩
   · exact h.elim
 | mkq e sz by' z n=>
   simp only [ae] at h ⊢
   split at h
   · exact ⟨_,fun K'=>⟨fun h=>h.2.2,fun h'=>⟨h.1,h.2.1,h'⟩⟩⟩
   · exact h.elim
 | trc x hi sz=>
   simp only [ae] at h ⊢
   split at h
   · split at h
     · split at h
       · exact ⟨_,fun K'=>⟨fun h=>h.2.2.2.2.2,fun h'=>⟨h.1,h.2.1,h.2.2.1,h.2.2.2.1,h.2.2.2.2.1,h'⟩⟩⟩
       · exact h.elim
     · exact h.elim
   · split at h
     · exact ⟨_,fun K'=>⟨fun h=>h.2.2.2.2,fun h'=>⟨h.1,h.2.1,h.2.2.1,h.2.2.2.1,h'⟩⟩⟩
     · exact h.elim
   · exact h.elim
 | mup kt x k v=>
   simp only [ae] at h ⊢
   split at h
   · split at h
     · exact ⟨_,fun K'=>⟨fun h=>h.2.2.2.2,fun h'=>⟨h.1,h.2.1,h.2.2.1,h.2.2.2.1,h'⟩⟩⟩
     · exact h.elim
   · exact h.elim
 | alc z=>exact ⟨_,fun K'=>Iff.rfl⟩
 | box x=>
   simp only [ae] at h ⊢
   split at h
   · split at h
     · rename_i hc; simp only [if_pos hc]; exact ⟨_,fun K'=>Iff.rfl⟩
     · exact h.elim
   · exact h.elim
 | st n p x=>
   simp only [ae] at h ⊢
   split at h
   · split at h
     · rename_i hc
       simp only [if_pos hc]
       split at h
       · exact ⟨_,fun K'=>Iff.rfl⟩
       · exact h.elim
     · exact h.elim
   · exact h.elim
 | s2b x=>
   simp only [ae] at h ⊢
   split at h
   · exact ⟨_,fun K'=>⟨fun h=>h.2,fun h'=>⟨h.1,h'⟩⟩⟩
   · exact h.elim
 | lit e0 sz xs=>
   simp only [ae] at h ⊢
   split at h
   · split at h
     · exact ⟨_,fun K'=>⟨fun h=>h.2.2,fun h'=>⟨h.1,h.2.1,h'⟩⟩⟩
     · exact h.elim
   · exact h.elim
 | app x y e sz by'=>
   simp only [ae] at h ⊢
   split at h
   · unfold AU at h ⊢
     split at h
     · split at h
       · exact ⟨_,fun K'=>⟨fun h=>h.2.2.2.2.2,fun h'=>⟨h.1,h.2.1,h.2.2.1,h.2.2.2.1,h.2.2.2.2.1,h'⟩⟩⟩
       · exact h.elim
     · exact h.elim
   · unfold AV at h ⊢
     split at h
     · split at h
       · exact ⟨_,fun K'=>⟨fun h=>h.2.2.2.2,fun h'=>⟨h.1,h.2.1,h.2.2.1,h.2.2.2.1,h'⟩⟩⟩
       · exact h.elim
     · exact h.elim
   · split at h
     · obtain ⟨h0,h⟩:=h
       split at h
       · exact ⟨_,fun K'=>⟨fun h=>h.2.2,fun h'=>⟨h0,h.1,h'⟩⟩⟩
       · split at h
         · exact ⟨_,fun K'=>⟨fun h=>h.2.2.2.2.2,fun h'=>⟨h0,h.1,h.2.1,h.2.2.1,h.2.2.2.1,h'⟩⟩⟩
         · exact h.elim
       · split at h
         · split at h
           · exact ⟨_,fun K'=>⟨fun h=>h.2.2.2.2.2,fun h'=>⟨h0,h.1,h.2.1,h.2.2.1,h.2.2.2.1,h'⟩⟩⟩
           · exact h.elim
         · exact h.elim
       · exact h.elim
     · exact h.elim
   · exact h.elim
 | rgs x=>
   simp only [ae] at h ⊢
   split at h
   · exact ⟨_,fun K'=>Iff.rfl⟩
   · exact h.elim
 | nxs x=>
   simp only [ae] at h ⊢
   split at h
   · split at h
     · split at h
       · rename_i hp; simp only [if_pos hp]; exact ⟨_,fun K'=>Iff.rfl⟩
       · rename_i hp; simp only [if_neg hp]; exact ⟨_,fun K'=>Iff.rfl⟩
     · exact h.elim
   · exact h.elim
 | yld g xs=>
   simp only [ae] at h ⊢
   split at h
   · split at h
     · exact ⟨_,fun K'=>⟨fun h=>h.2.2,fun h'=>⟨h.1,h.2.1,h'⟩⟩⟩
     · exact h.elim
   · exact h.elim
 | mkm e by' e2 sz n=>
   simp only [ae] at h ⊢
   split at h
   · exact ⟨_,fun K'=>⟨fun h=>h.2.2,fun h'=>⟨h.1,h.2.1,h'⟩⟩⟩
   · exact h.elim
 | mk0 e sz by' n=>
   simp only [ae] at h ⊢
   split at h
   · exact ⟨_,fun K'=>⟨fun h=>h.2.2,fun h'=>⟨h.1,h.2.1,h'⟩⟩⟩
   · exact h.elim
 | mks e sz by' z n=>
   simp only [ae] at h ⊢
   split at h
   · exact ⟨_,fun K'=>⟨fun h=>h.2.2,fun h'=>⟨h.1,h.2.1,h'⟩⟩⟩
   · exact h.elim
 | _=>
   simp only [ae] at h ⊢
   split at h
   · exact ⟨_,fun K'=>Iff.rfl⟩
   · exact h.elim
theorem Lt {x:AOp} (hn:(match x.a with | .call _ _=>false | .callv _ _=>false | .callH _ _=>false | .inv _ _ _=>false | .ivp _ _ _=>false | _=>true)=true) {σ:St} {K:St→Prop} (h:wop Φ x K σ):∃ τ,∀ K',wop Φ x K' σ↔K' τ:=by
 unfold wop at h ⊢
 split at h
 · exact A8 hn h
 · split at h
   · rename_i t b _ _ y hy
     cases y<;>cases b<;>simp [Br] at h ⊢<;>first | exact A8 hn h | exact ⟨_,fun K'=>Iff.rfl⟩
   · exact ⟨_,fun K'=>Iff.rfl⟩
   · exact h.elim
theorem Fx (ops:Array Oper):∀ (f:Nat) (listed:Array Bool),ww ops f listed≠[]
 | 0,listed=>by unfold ww; split<;>simp
 | f + 1,listed=>by
   unfold ww
   split
   · simp
   · rename_i i r _
     have:=Fx ops f (listed.setIfInBounds i true)
     intro h
     rw [List.flatMap_cons] at h
     exact this (List.map_eq_nil_iff.1 (List.append_eq_nil_iff.1 h).1)
theorem ui {i:Nat} {x:AOp}:∀ {xs:List AOp},qV xs=true→xs[i]?=some x→(match x.a with | .call _ _=>false | .callv _ _=>false | .callH _ _=>false | .inv _ _ _=>false | .ivp _ _ _=>false | _=>true)=true
 | [],_,h=>by simp at h
 | y::ys,hn,h=>by
   simp only [qV,Bool.and_eq_true] at hn
   revert h
   revert i
   intro i h
   cases i with
   | zero=>simp at h; subst h; exact hn.1
   | succ i=>simp at h; exact ui hn.2 h
theorem GG (hn:qV xs=true) (hsz:ops.size=xs.length):∀ (f:Nat) (listed:Array Bool) (σ:St),(∀ p∈ww ops f listed,∃ ys,gn xs p=some ys∧qM Φ ys K σ)→
 Fc Φ ops xs K f listed σ:=by
 intro f
 induction f with
 | zero=>
   intro listed σ h
   unfold ww at h
   split at h
   · rename_i hr
     obtain ⟨ys,h1,h2⟩:=h [] (by simp)
     simp only [gn,Option.some.injEq] at h1
     subst h1
     exact ⟨hr,h2⟩
   · obtain ⟨ys,h1,_⟩:=h [ops.size] (by simp)
     simp [gn,hsz] at h1
 | succ f ih=>
   intro listed σ h
   unfold ww at h
   split at h
   · rename_i hr
     obtain ⟨ys,h1,h2⟩:=h [] (by simp)
     simp only [gn,Option.some.injEq] at h1
     subst h1
     refine ⟨fun _=>h2,fun i hi=>?_⟩
     rw [hr] at hi
     cases hi
   · rename_i i0 r hr
     refine ⟨fun h0=>(by rw [hr] at h0; cases h0),fun i hi=>?_⟩
     rw [hr] at hi
     have hall:∀ p∈ww ops f (listed.setIfInBounds i true),∃ ys,gn xs (i::p)=some ys∧qM Φ ys K σ:=fun p hp=>h (i::p) (List.mem_flatMap.2 ⟨i,hi,List.mem_map.2 ⟨p,hp,rfl⟩⟩)
     obtain ⟨p0,hp0⟩:=List.exists_mem_of_ne_nil _ (Fx ops f (listed.setIfInBounds i true))
     obtain ⟨ys0,h0,hw0⟩:=hall p0 hp0
     simp only [gn] at h0
     split at h0
     · rename_i x ys1 hx hy1
       cases h0
       obtain ⟨τ,hτ⟩:=Lt (ui hn hx) hw0
       refine ⟨x,hx,(hτ _).2 (ih _ τ (fun p hp=>?_))⟩
       obtain ⟨ys,h2,hw⟩:=hall p hp
       simp only [gn,hx] at h2
       split at h2
       · rename_i x' ys2 hx' hy2
         cases hx'
         cases h2
         exact ⟨ys2,hy2,(hτ _).1 hw⟩
       · cases h2
     · cases h0
theorem Ij {x:AOp} {σ:St} {K K':St→Prop} (h:aF Φ x K σ) (hk:∀ τ,K τ→K' τ):wop Φ x K' σ:=Il (gQ h hk)
theorem zg:∀ (f:Nat) (listed:Array Bool) {σ:St},oY Φ ops xs K f listed σ→Fc Φ ops xs K f listed σ
 | 0,_,_,h=>h
 | f + 1,_,_,h=>⟨h.1,fun i hi=>by
   obtain ⟨x,hx,hw⟩:=h.2 i hi
   exact ⟨x,hx,Ij hw fun τ hτ=>zg f _ hτ⟩⟩
def EA (xs:List AOp) (anc:List Nat) (listed:Array Bool) (i:Nat):Bool:=match xs[i]? with
 | some x=>(List.range xs.length).all fun j=>decide (j=i) || listed.getD j true || te anc j i || (match xs[j]? with
   | some y=>rB x y
   | none=>true)
 | none=>false
def AB (xs:List AOp) (anc:List Nat) (listed:Array Bool):List Nat→Option Nat
 | []=>none
 | i::l=>if EA xs anc listed i=true then some i else AB xs anc listed l
def yD:List (Option OT)→Option OT
 | []=>none
 | [t]=>t
 | t::ts=>match t,yD ts with
   | some a,some b=>some (.both a b)
   | _,_=>none
def opT:Option AOp→Option OT→Option OT
 | some x,some t=>some (.op x t)
 | _,_=>none
def Ed (ops:Array Oper) (xs:List AOp) (anc:List Nat):Nat→Array Bool→Option OT
 | 0,listed=>match Region.ready .any ops listed with
   | []=>some .nil
   | _=>none
 | f + 1,listed=>match Region.ready .any ops listed with
   | []=>some .nil
   | i::r=>match AB xs anc listed (i::r) with
     | some k=>opT xs[k]? (Ed ops xs anc f (listed.setIfInBounds k true))
     | none=>yD ((i::r).map fun k=>opT xs[k]? (Ed ops xs anc f (listed.setIfInBounds k true)))
theorem BJ {x:Option AOp} {t:Option OT} {u:OT} (h:opT x t=some u):∃ y v,x=some y∧t=some v∧u=.op y v:=by
 unfold opT at h
 split at h
 · cases h; exact ⟨_,_,rfl,rfl,rfl⟩
 · cases h
theorem yC {K:St→Prop} {σ:St}:∀ {ts:List (Option OT)} {t:OT},yD ts=some t→gU Φ t K σ→∀ u∈ts,∃ v,u=some v∧gU Φ v K σ
 | [],_,h,_,_,_=>by cases h
 | [t0],t,h,hW,u,hu=>by
   simp only [yD] at h
   simp only [List.mem_singleton] at hu
   subst hu
   exact ⟨t,h,hW⟩
 | t0::t1::ts,t,h,hW,u,hu=>by
   simp only [yD] at h
   cases t0 with
   | none=>cases h
   | some a=>
     cases h2:yD (t1::ts) with
     | none=>simp [h2] at h
     | some b=>
       simp only [h2,Option.some.injEq] at h
       subst h
       rcases List.mem_cons.1 hu with rfl | hu
       · exact ⟨a,rfl,hW.1⟩
       · exact yC h2 hW.2 u hu
theorem EE {anc:List Nat} {listed:Array Bool} {l:List Nat} {k:Nat} (h:AB xs anc listed l=some k):k∈l∧EA xs anc listed k=true:=by
 induction l with
 | nil=>cases h
 | cons i l ih=>
   simp only [AB] at h
   split at h
   · rename_i hf; cases h; exact ⟨by simp,hf⟩
   · exact ⟨List.mem_cons_of_mem _ (ih h).1,(ih h).2⟩
theorem GF {anc:List Nat} (ha:y8 ops anc) (hK:Inv K):∀ (f:Nat) (listed:Array Bool) (σ:St) (t:OT),oS ops listed→Ed ops xs anc f listed=some t→gU Φ t K σ→
 oY Φ ops xs K f listed σ:=by
 intro f
 induction f with
 | zero=>
   intro listed σ l hc h hW
   unfold Ed at h
   split at h
   · rename_i hr
     cases h
     exact ⟨hr,hW⟩
   · cases h
 | succ f ih=>
   intro listed σ l hc h hW
   unfold Ed at h
   split at h
   · rename_i hr
     cases h
     exact ⟨fun _=>hW,fun i hi=>by rw [hr] at hi; cases hi⟩
   · rename_i i r hr
     split at h
     · rename_i k hk
       obtain ⟨x,l',hx,hl',rfl⟩:=BJ h
       obtain ⟨hk1,hfree⟩:=EE hk
       have hkr:k∈Region.ready .any ops listed:=by rw [hr]; exact hk1
       refine rI ha hK hx f listed σ hc ?_ hkr (gQ hW fun τ hτ=>ih _ τ l' (hc.set hkr) hl' hτ)
       intro j y hy hjk hun hno
       unfold EA at hfree
       rw [hx] at hfree
       have:=List.all_eq_true.1 hfree j (List.mem_range.2 (List.getElem?_eq_some_iff.1 hy).1)
       simp only [hun,hno,hy,Bool.or_false,Bool.or_eq_true,decide_eq_true_eq,hjk,false_or] at this
       exact this
     · refine ⟨fun h0=>(by rw [hr] at h0; cases h0),fun k hk=>?_⟩
       obtain ⟨v,hv,hWv⟩:=yC h hW _ (List.mem_map.2 ⟨k,by rw [hr] at hk; exact hk,rfl⟩)
       obtain ⟨x,l',hx,hl',rfl⟩:=BJ hv
       exact ⟨x,hx,gQ hWv fun τ hτ=>ih _ τ l' (hc.set hk) hl' hτ⟩
def AW (ops:Array Oper) (anc:List Nat):Bool:=
 ((List.range ops.size).all fun j=>match ops[j]? with
   | some o=>o.after.toList.all fun e=>!(Region.binds .any e) || decide (e.on < j)
   | none=>true) &&
 ((List.range ops.size).all fun j=>match ops[j]? with
   | some o=>(List.range j).all fun i=>!(Nat.testBit (anc.getD j 0) i) || o.after.toList.any fun e=>Region.binds .any e && (decide (e.on=i) || te anc e.on i)
   | none=>true)
theorem E5 {anc:List Nat} (hd:AW ops anc=true):y8 ops anc:=by
 simp only [AW,Bool.and_eq_true] at hd
 obtain ⟨hed,hanc⟩:=hd
 intro j i oj hj hb
 simp only [te,Bool.and_eq_true,decide_eq_true_eq] at hb
 have hs:j < ops.size:=(Array.getElem?_eq_some_iff.1 hj).1
 have h1:=List.all_eq_true.1 hanc j (List.mem_range.2 hs)
 simp only [hj] at h1
 have h2:=List.all_eq_true.1 h1 i (List.mem_range.2 hb.1)
 simp only [hb.2,Bool.not_true,Bool.false_or] at h2
 obtain ⟨e,he,h3⟩:=List.any_eq_true.1 h2
 simp only [Bool.and_eq_true,Bool.or_eq_true,decide_eq_true_eq] at h3
 have h4:=List.all_eq_true.1 hed j (List.mem_range.2 hs)
 simp only [hj] at h4
 have h5:=List.all_eq_true.1 h4 e he
 simp only [h3.1,Bool.not_true,Bool.false_or,decide_eq_true_eq] at h5
 exact ⟨e,by simpa using he,h3.1,h5,h3.2⟩
theorem oS.start {n:Nat}:oS ops (Array.replicate n false):=by
 intro j oj hj hl
 by_cases hjn:j < n
 · simp [hjn] at hl
 · simp [hjn] at hl
theorem NO {ps:List Nat} {os:List Oper} {ys:List AOp} (h:LOs P N ps ops os ys):∀ {i:Nat} {o:Oper} {y:AOp},os[i]?=some o→ys[i]?=some y→LO P N ps ops o y:=by
 induction h with
 | nil=>intro i o y h; simp at h
 | cons hl hs ih=>
   intro i o y h1 h2
   cases i with
   | zero=>simp at h1 h2; subst h1; subst h2; exact hl
   | succ i=>simp at h1 h2; exact ih h1 h2
theorem mM (hJC:fj P M0 B) {ρ:Option Nat} {Q:Exit→Act→World→Prop} {K:St→Prop} (hL:LOs P N B.ps ops ops.toList xs) (hK:∀ κ' M' σ' a' w',K σ'→Rel N M0 B w0 κ' M' σ' a' w'→Q .normal a' w'):
 ∀ (f:Nat) (listed:Array Bool) {κ:Kap} {M:Mem} {σ:St} {a:Act} {w:World},Rel N M0 B w0 κ M σ a w→Fc (Cn P) ops xs K f listed σ→wpAnyIn (FR ρ) 0 P .any ops Q f listed a w
 | 0,_,_,_,_,_,_,H,hW=>⟨hW.1,hK _ _ _ _ _ hW.2 H⟩
 | f + 1,listed,_,_,_,_,_,H,hW=>by
   refine ⟨fun h0=>hK _ _ _ _ _ (hW.1 h0) H,fun i hi=>?_⟩
   obtain ⟨x,hx,hw⟩:=hW.2 i hi
   obtain ⟨_,o,ho,_⟩:=mem_ready.1 hi
   have hl:=NO hL (by simpa using ho) hx
   have:=BI hJC (ρ:=ρ) H hl hw (Q:=Q) (fun κ' M' σ' a' w' hk H'=>mM (ρ:=ρ) hJC hL hK f _ H' hk)
   unfold wpOpIn
   simp only [ho]
   split
   · rename_i hwd; rw [if_pos hwd] at this; exact this
   · rename_i hwd; rw [if_neg hwd] at this; exact ⟨fun _ _=>trivial,this⟩
theorem Rel.draw {κ:Kap} {M:Mem} {σ:St} {a:Act} {w:World} (H:Rel N M0 B w0 κ M σ a w) (n:Nat):Rel N M0 B w0 κ M σ a { w with drawn:=n }:=
 { dfr:=H.dfr,jst:=H.jst,pin:=H.pin,size:=H.size,regs:=H.regs,heap:=fun id ob h=>by
    have:=H.heap id ob h
    cases ob with
    | gh l=>
      simp only [aB] at this ⊢
      obtain ⟨k,h1,h2,h3⟩:=this
      exact ⟨k,h1,H.jst _ _ _ _ _ _ _ h2 ⟨rfl,rfl,rfl,Nat.le_refl _,fun _ _ _=>rfl,fun _ cur T z h=>⟨cur,T,z,h,rfl⟩⟩ (fun _ _=>rfl) (fun _ _ h=>h) H.snd,h3⟩
    | _=>exact this
   inj:=H.inj,snd:=H.snd,sep:=H.sep,sub:=H.sub,new:=H.new,base:=H.base,blw:=⟨H.blw.os,H.blw.tape,H.blw.output,H.blw.size,H.blw.block,H.blw.siz⟩ }
inductive LC (P:Program) (N:Nat) (ps:List Nat):Code→AC→Prop
 | skip:LC P N ps .skip .skip
 | reg {id ops xs ks}:LOs P N ps ops ops.toList xs→LC P N ps (.region id ops false) (.reg xs ks)
 | regD {id ops xs ys anc perm ks}:LOs P N ps ops ops.toList xs→rl ops xs anc perm=true→gn xs perm=some ys→LC P N ps (.region id ops true) (.regD ys ks)
 | regE {id ops xs yss ks}:LOs P N ps ops ops.toList xs→qV xs=true→ops.size=xs.length→uf xs (ww ops ops.size (Array.replicate ops.size false))=some yss→LC P N ps (.region id ops true) (.regE yss ks)
 | regF {id ops xs yss anc ks}:LOs P N ps ops ops.toList xs→AW ops anc=true→Ed ops xs anc ops.size (Array.replicate ops.size false)=some yss→LC P N ps (.region id ops true) (.regF yss ks)
 | scope {c rest a b l ks}:LC P N ps c a→findLabel c l=some rest→LC P N ps rest b→LC P N ps (.scope c) (.scope l ks a b)
 | label {l}:LC P N ps (.label l) (.label l)
 | goto {l}:LC P N ps (.goto l) (.goto l)
 | bad {x}:LC P N ps x .bad
 | seq {x y a b}:LC P N ps x a→LC P N ps y b→LC P N ps (.seq x y) (.seq a b)
 | cond {c c' x y a b t}:cO P t c=some c'→LC P N ps x a→LC P N ps y b→LC P N ps (.cond c x y) (.cond c' a b)
 | block {id x a}:LC P N ps x a→LC P N ps (.block id x) (.block id a)
 | loop {x a ks}:LC P N ps x a→LC P N ps (.loop x) (.loop ks a)
 | exit {id}:LC P N ps (.exit id) (.exit id)
 | ret:LC P N ps .ret .ret
def Ex.out:Ex→Exit
 | .norm=>.normal
 | .exit id=>.exit id
 | .goto l=>.goto l
 | .ret=>.ret
theorem ro {κ:Kap} {M:Mem} {σ σ':St} {a:Act} {w:World} (H:Rel N M0 B w0 κ M σ' a w) (ks:List Nat):Rel N M0 B w0 κ M (σ.cls σ' ks) a w:=H.forget _ fun t v h=>B5 h
theorem ue {r s:List (Nat × V)} (h:∀ t,lk s t=lk r t):∀ ks,pk s ks=pk r ks
 | []=>rfl
 | k::ks=>by simp only [pk,h k,ue h ks]
theorem MJ {R:St→Prop} (ks:List Nat):Inv (fun σ'=>R (σ'.nrm ks)):=by
 intro σ1 τ he h1
 have:τ.nrm ks=σ1.nrm ks:=by
  simp only [St.nrm,he.1,ue he.2]
 show R (τ.nrm ks)
 rw [this]; exact h1
theorem B8 {p:Nat→Prop} (h:∃ n,p n):∃ n,p n∧∀ m,p m→n≤m:=by
 obtain ⟨n,hn⟩:=h
 induction n using Nat.strongRecOn with
 | _ n ih=>
   by_cases hm:∃ m,m < n∧p m
   · obtain ⟨m,h1,h2⟩:=hm
     exact ih m h1 h2
   · exact ⟨n,hn,fun m h=>by
      rcases Nat.lt_or_ge m n with h1 | h1
      · exact (hm ⟨m,h1,h⟩).elim
      · exact h1⟩
open Classical in
noncomputable def oq (p:Nat→Prop):Nat:=if h:∃ n,p n then (B8 h).choose else 0
theorem iR {p:Nat→Prop} (h:∃ n,p n):p (oq p)∧∀ m,p m→oq p≤m:=by
 unfold oq
 rw [dif_pos h]
 exact (B8 h).choose_spec
theorem Bk {b:Frame} {a:Act} {c:Code} {k:List Item} {cs:List Frame} {w:World}:step P (lone (b.atR a (.code (.scope c)::k)) cs w)=.next (lone (b.atR a (.code c::.inScope c::k)) cs w):=
 step_lone_go (by simp [stepG,stepG.exec,Frame.atR])
theorem nf {b:Frame} {a:Act} {c:Code} {k:List Item} {cs:List Frame} {w:World}:step P (lone (b.atR a (.inScope c::k)) cs w)=.next (lone (b.atR a k) cs w):=
 step_lone_go (by simp [stepG,stepG.exec,Frame.atR])
theorem qL {F:Fence} {n:Nat} {Q:Exit→Act→World→Prop} {a:Act} {w:World} {c rest:Code} (l:Nat) (J:Act→World→Prop) (μ:Act→World→Nat) (hf:findLabel c l=some rest)
 (first:c.wpIn F n P (Exit.jump l J Q) a w)
 (pass:∀ a w,J a w→rest.wpIn F n P (Exit.jump l (fun a' w'=>J a' w'∧μ a' w' < μ a w) Q) a w):(Code.scope c).wpIn F n P Q a w:=by
 intro b k cs hro hb hr
 have hg:gotoIn l (.inScope c::k)=some (.code rest::.inScope c::k):=by simp [gotoIn,hf]
 have hS:∀ {I:Machine→Prop} {m:Machine} {e:Exit} {a₁:Act} {w₁:World},(∀ l',e≠.goto l')→e≠.normal→ArrivesIn I P m b (.inScope c::k) cs e a₁ w₁→ArrivesIn I P m b k cs e a₁ w₁:=by
  intro I m e a₁ w₁ hng hnn harr
  cases e with
  | normal=>exact absurd rfl hnn
  | exit id=>exact ⟨fun k' hk=>harr.1 k' (by simp [exitTo,hk]),fun hr hk=>harr.2 hr (by simp [exitTo,hk])⟩
  | goto l'=>exact absurd rfl (hng l')
  | ret=>exact harr
  | panic ch=>exact harr
  | outgrown=>exact harr
 have key:∀ n a w,μ a w=n→J a w→∃ e a' w',Q e a' w'∧ArrivesIn (Machine.fenced P F) P (lone (b.atR a (.code rest::.inScope c::k)) cs w) b k cs e a' w':=by
  intro n
  induction n using Nat.strongRecOn with
  | _ n ih=>
    intro a w hn hJ
    obtain ⟨e,a₁,w₁,hq,harr⟩:=pass a w hJ b (.inScope c::k) cs hro hb hr
    cases e with
    | normal=>exact ⟨.normal,a₁,w₁,hq,StepsIn.trans harr (.one (fenced_calm hb hr rfl) nf)⟩
    | exit id=>exact ⟨.exit id,a₁,w₁,hq,hS (fun _ h=>by cases h) (fun h=>by cases h) harr⟩
    | goto l'=>
      obtain ⟨rfl,hJ',hlt⟩:=hq
      obtain ⟨e₂,a₂,w₂,hq₂,harr₂⟩:=ih _ (by omega) a₁ w₁ rfl hJ'
      exact ⟨e₂,a₂,w₂,hq₂,.of_steps (harr.1 _ hg) harr₂⟩
    | ret=>exact ⟨_,a₁,w₁,hq,hS (fun _ h=>by cases h) (fun h=>by cases h) harr⟩
    | panic ch=>exact ⟨_,a₁,w₁,hq,hS (fun _ h=>by cases h) (fun h=>by cases h) harr⟩
    | outgrown=>exact ⟨_,a₁,w₁,hq,hS (fun _ h=>by cases h) (fun h=>by cases h) harr⟩
 have h0:StepsIn (Machine.fenced P F) P (lone (b.atR a (.code (.scope c)::k)) cs w) (lone (b.atR a (.code c::.inScope c::k)) cs w):=.one (fenced_calm hb hr rfl) Bk
 obtain ⟨e,a₁,w₁,hq,harr⟩:=first b (.inScope c::k) cs hro hb hr
 cases e with
 | normal=>exact ⟨.normal,a₁,w₁,hq,StepsIn.trans h0 (StepsIn.trans harr (.one (fenced_calm hb hr rfl) nf))⟩
 | exit id=>exact ⟨.exit id,a₁,w₁,hq,.of_steps h0 (hS (fun _ h=>by cases h) (fun h=>by cases h) harr)⟩
 | goto l'=>
   obtain ⟨rfl,hJ'⟩:=hq
   obtain ⟨e₂,a₂,w₂,hq₂,harr₂⟩:=key _ a₁ w₁ rfl hJ'
   exact ⟨e₂,a₂,w₂,hq₂,.of_steps (StepsIn.trans h0 (harr.1 _ hg)) harr₂⟩
 | ret=>exact ⟨_,a₁,w₁,hq,.of_steps h0 (hS (fun _ h=>by cases h) (fun h=>by cases h) harr)⟩
 | panic ch=>exact ⟨_,a₁,w₁,hq,.of_steps h0 (hS (fun _ h=>by cases h) (fun h=>by cases h) harr)⟩
 | outgrown=>exact ⟨_,a₁,w₁,hq,.of_steps h0 (hS (fun _ h=>by cases h) (fun h=>by cases h) harr)⟩
theorem sH {F:Fence} {n:Nat} {Q:Exit→Act→World→Prop} {a:Act} {w:World} {c:Code} (I:Nat→Act→World→Prop) (n₀:Nat) (h₀:I n₀ a w)
 (round:∀ k a w,I k a w→c.wpIn F n P (Exit.then (fun a' w'=>∃ k',k' < k∧I k' a' w') Q) a w):(Code.loop c).wpIn F n P Q a w:=by
 refine wpIn_loop (fun a w=>∃ k,I k a w) (fun a w=>oq (fun k=>I k a w)) ⟨n₀,h₀⟩ ?_
 intro a w hI
 refine wpIn_mono (round _ a w (iR hI).1) ?_
 intro e a' w' hq
 cases e with
 | normal=>
   obtain ⟨k',hlt,hI'⟩:=hq
   exact show (∃ k,I k a' w')∧oq (fun k=>I k a' w') < oq (fun k=>I k a w) from ⟨⟨k',hI'⟩,Nat.lt_of_le_of_lt ((iR ⟨k',hI'⟩).2 k' hI') hlt⟩
 | exit id=>exact hq
 | goto l=>exact hq
 | ret=>exact hq
 | panic ch=>exact hq
 | outgrown=>exact hq
theorem kn (hm:P.follows .mixedOrders=true) (hJC:fj P M0 B) {ρ:Option Nat} {c:Code} {x:AC} (h:LC P N B.ps c x):∀ {Q:Exit→Act→World→Prop} {R:Ex→St→Prop},
 (∀ e κ M σ a w,R e σ→Rel N M0 B w0 κ M σ a w→Q e.out a w)→∀ {κ:Kap} {M:Mem} {σ:St} {a:Act} {w:World},Rel N M0 B w0 κ M σ a w→W (Cn P) x R σ→c.wpIn (FR ρ) 0 P Q a w:=by
 induction h with
 | skip=>intro Q R hQ κ M σ a w H hW; exact wpIn_skip (hQ .norm _ _ _ _ _ hW H)
 | reg hL=>
   intro Q R hQ κ M σ a w H hW
   refine wpIn_region_list (yl hJC (fun κ' M' σ' a' w' hk H'=>?_) hL H hW)
   exact hQ .norm _ _ _ _ _ hk (ro H' _)
 | @regD id ops xs ys anc perm ks hL hd hp=>
   intro Q R hQ κ M σ a w H hW
   refine wpIn_region_any hm ?_
   have hinv:Inv (fun σ'=>R .norm (σ.cls σ' ks)):=by
    intro σ1 τ he h1
    have:σ.cls τ ks=σ.cls σ1 ks:=by
     simp only [St.cls,he.1,ue he.2]
    rw [this]; exact h1
   refine mM hJC hL (fun κ' M' σ' a' w' hk H'=>?_) _ _ (H.draw _) (zg _ _ (Dc hd hp hinv hW))
   exact hQ .norm _ _ _ _ _ hk (ro H' _)
 | @regE id ops xs yss ks hL hn hsz hp=>
   intro Q R hQ κ M σ a w H hW
   refine wpIn_region_any hm ?_
   have key:∀ (ps:List (List Nat)) (yss:List (List AOp)),uf xs ps=some yss→DE (Cn P) yss (fun σ'=>R .norm (σ.cls σ' ks)) σ→∀ p∈ps,∃ ys,gn xs p=some ys∧qM (Cn P) ys (fun σ'=>R .norm (σ.cls σ' ks)) σ:=by
    intro ps
    induction ps with
    | nil=>intro _ _ _ p hp; cases hp
    | cons q ps ih=>
      intro yss h1 h2 p hp
      simp only [uf] at h1
      split at h1
      · rename_i y ys hy hys
        cases h1
        rcases List.mem_cons.1 hp with rfl | hp
        · exact ⟨y,hy,h2.1⟩
        · exact ih ys hys h2.2 p hp
      · cases h1
   refine mM hJC hL (fun κ' M' σ' a' w' hk H'=>?_) _ _ (H.draw _) (GG hn hsz _ _ σ (key _ _ hp hW))
   exact hQ .norm _ _ _ _ _ hk (ro H' _)
 | @regF id ops xs yss anc ks hL hanc hp=>
   intro Q R hQ κ M σ a w H hW
   refine wpIn_region_any hm ?_
   refine mM hJC hL (fun κ' M' σ' a' w' hk H'=>?_) _ _ (H.draw _) (zg _ _ (GF (E5 hanc) (MJ (R:=R .norm) ks) _ _ σ _ oS.start hp hW))
   obtain ⟨κ2,H2⟩:=H'.nrm ks
   exact hQ .norm _ _ _ _ _ hk H2
 | @scope c rest x y l ks _ hf _ iha ihb=>
   intro Q R hQ κ M σ a w H hW
   obtain ⟨I,h1,h2⟩:=hW
   have G:∀ a w,(∃ n κ M τ,I n τ∧Rel N M0 B w0 κ M τ a w)→∃ n,∃ κ M τ,I n τ∧Rel N M0 B w0 κ M τ a w:=fun _ _ h=>h
   refine qL l (fun a w=>∃ n κ M τ,I n τ∧Rel N M0 B w0 κ M τ a w) (fun a w=>oq fun n=>∃ κ M τ,I n τ∧Rel N M0 B w0 κ M τ a w) hf (iha ?_ H h1) ?_
   · intro e κ M σ a w hR H
     cases e with
     | norm=>exact hQ .norm _ _ _ _ _ hR H
     | exit id=>exact hQ (.exit id) _ _ _ _ _ hR H
     | ret=>exact hQ .ret _ _ _ _ _ hR H
     | goto l'=>
       obtain ⟨rfl,n,ms,τ'',g1,g2⟩:=hR
       obtain ⟨κ',M',H'⟩:=H.mats g1
       obtain ⟨κ2,H2⟩:=H'.nrm ks
       exact ⟨rfl,n,_,_,_,g2,H2⟩
   · intro a w hJ
     obtain ⟨⟨κ,M,τ,hI,H⟩,hmin⟩:=iR hJ
     refine ihb ?_ H (h2 _ τ hI)
     intro e κ M σ a w hR H
     cases e with
     | norm=>exact hQ .norm _ _ _ _ _ hR H
     | exit id=>exact hQ (.exit id) _ _ _ _ _ hR H
     | ret=>exact hQ .ret _ _ _ _ _ hR H
     | goto l'=>
       obtain ⟨rfl,m,ms,τ'',g1,g2,g3⟩:=hR
       obtain ⟨κ',M',H'⟩:=H.mats g1
       obtain ⟨κ2,H2⟩:=H'.nrm ks
       have hJ':∃ n,∃ κ M τ,I n τ∧Rel N M0 B w0 κ M τ a w:=⟨m,_,_,_,g2,H2⟩
       exact ⟨rfl,hJ',Nat.lt_of_le_of_lt ((iR hJ').2 m ⟨_,_,_,g2,H2⟩) g3⟩
 | label=>intro Q R hQ κ M σ a w H hW; exact wpIn_label (hQ .norm _ _ _ _ _ hW H)
 | goto=>intro Q R hQ κ M σ a w H hW; exact wpIn_goto (hQ (.goto _) _ _ _ _ _ hW H)
 | bad=>
   intro Q R hQ κ M σ a w H hW
   exact hW.elim
 | seq _ _ iha ihb=>
   intro Q R hQ κ M σ a w H hW
   refine wpIn_seq (iha ?_ H hW)
   intro e κ M σ a w hR H
   cases e with
   | norm=>exact ihb hQ H hR
   | exit id=>exact hQ (.exit id) _ _ _ _ _ hR H
   | goto l=>exact hQ (.goto l) _ _ _ _ _ hR H
   | ret=>exact hQ .ret _ _ _ _ _ hR H
 | cond hc _ _ iha ihb=>
   intro Q R hQ κ M σ a w H hW
   simp only [W] at hW
   split at hW
   · rename_i t ht
     have hv:=H.op hc ht
     exact wpIn_cond_split (fJ hv) (fun h=>iha hQ H (hW.1 h)) (fun h=>ihb hQ H (hW.2 h))
   · exact hW.elim
 | @block id x a _ ih=>
   intro Q R hQ κ M σ a w H hW
   refine wpIn_block (ih ?_ H hW)
   intro e κ M σ a w hR H
   cases e with
   | norm=>exact hQ .norm _ _ _ _ _ hR H
   | exit id'=>
     simp only [Ex.inBlock] at hR
     simp only [Ex.out,Exit.inBlock]
     split
     · rename_i he; rw [if_pos he] at hR; exact hQ .norm _ _ _ _ _ hR H
     · rename_i he; rw [if_neg he] at hR; exact hQ (.exit id') _ _ _ _ _ hR H
   | goto l=>exact hQ (.goto l) _ _ _ _ _ hR H
   | ret=>exact hQ .ret _ _ _ _ _ hR H
 | @loop x a ks _ ih=>
   intro Q R hQ κ M σ a w H hW
   obtain ⟨I,⟨n,ms,σ',hms,hI⟩,hr⟩:=hW
   obtain ⟨κ',M',H'⟩:=H.mats hms
   obtain ⟨κ2,H2⟩:=H'.nrm ks
   refine sH (fun n a w=>∃ κ M τ,I n τ∧Rel N M0 B w0 κ M τ a w) n ⟨_,_,_,hI,H2⟩ ?_
   rintro n a w ⟨κ,M,τ,hI,H⟩
   refine ih ?_ H (hr n τ hI)
   intro e κ M σ a w hR H
   cases e with
   | norm=>
     obtain ⟨m,ms,τ',h1,h2,h3⟩:=hR
     obtain ⟨κ',M',H'⟩:=H.mats h1
     obtain ⟨κ2,H2⟩:=H'.nrm ks
     exact ⟨m,h3,_,_,_,h2,H2⟩
   | exit id=>exact hQ (.exit id) _ _ _ _ _ hR H
   | goto l=>exact hQ (.goto l) _ _ _ _ _ hR H
   | ret=>exact hQ .ret _ _ _ _ _ hR H
 | exit=>intro Q R hQ κ M σ a w H hW; exact wpIn_exit (hQ (.exit _) _ _ _ _ _ hW H)
 | ret=>intro Q R hQ κ M σ a w H hW; exact wpIn_ret (hQ .ret _ _ _ _ _ hW H)
end
def Qr (P:Program) (op:BinOp) (xt:TypeId) (u v:AO):Act':=
 match P.underlying xt,op with
 | some .bool,.eql=>.beq false u v
 | some .bool,.neq=>.beq true u v
 | some (.struct _),.eql=>match ktT P xt with
   | some kt=>if kt.agg=true then .aeq false kt u v else .bin op u v
   | none=>.bin op u v
 | some (.struct _),.neq=>match ktT P xt with
   | some kt=>if kt.agg=true then .aeq true kt u v else .bin op u v
   | none=>.bin op u v
 | some (.array _ _),.eql=>match ktT P xt with
   | some kt=>if kt.agg=true then .aeq false kt u v else .bin op u v
   | none=>.bin op u v
 | some (.array _ _),.neq=>match ktT P xt with
   | some kt=>if kt.agg=true then .aeq true kt u v else .bin op u v
   | none=>.bin op u v
 | _,_=>.bin op u v
def xW (P:Program) (t:TypeId):Option (Nat × Bool):=
 match dh P t,nT P t with
 | some n,some g=>if g=true∨n=1 then some (n,g) else none
 | _,_=>none
def FH (P:Program) (t:TypeId) (i:Nat):Option (Nat × TypeId):=
 match P.underlying t with
 | some (.struct fs)=>match fs[i]? with
   | some f=>some (f.offset,f.type)
   | none=>none
 | _=>none
def Km (P:Program) (c:Call):Option Act':=
 match c with
 | { callee:=.builtin .len,args:=args,argTypes:=ts }=>match args.toList,ts.toList with
   | [x],[t]=>match cO P t x,P.underlying t with
     | some u,some .string=>some (.lens u)
     | some u,some (.slice _)=>some (.lenq u)
     | _,_=>none
   | _,_=>none
 | { callee:=.builtin .append,args:=args,argTypes:=ts }=>match args.toList,ts.toList with
   | [x,y],[t,t']=>if t=t' then (match P.underlying t with
     | some (.slice e)=>match P.info? e with
       | some i=>match i.zero,cO P t x,cO P t y with
         | some z,some x',some y'=>if 0 < i.bytes∧z.cells.size=i.size∧0 < i.size then some (.app x' y' e i.size i.bytes) else none
         | _,_,_=>none
       | none=>none
     | _=>none) else (match P.underlying t,P.underlying t' with
     | some (.slice e),some .string=>match P.info? e with
       | some i=>match i.zero,cO P t x,cO P t' y with
         | some (.int .u8 0),some x',some y'=>if i.size=1∧i.bytes=1 then some (.aps x' y' e) else none
         | _,_,_=>none
       | none=>none
     | _,_=>none)
   | _,_=>none
 | { callee:=.builtin .delete,args:=args,argTypes:=ts }=>match args.toList,ts.toList with
   | [x,k],[t,t']=>match P.underlying t with
     | some (.map K _)=>if t'=K then (match ktT P K,cO P t x,cO P K k with
       | some kt,some u,some b=>some (.del kt u b)
       | _,_,_=>none) else none
     | _=>none
   | _,_=>none
 | { callee:=.builtin .unsafeSliceData,args:=args,argTypes:=ts }=>match args.toList,ts.toList with
   | [x],[t]=>match cO P t x,P.underlying t with
     | some u,some (.slice _)=>some (.usd u)
     | _,_=>none
   | _,_=>none
 | { callee:=.builtin .unsafeString,args:=args,argTypes:=ts }=>match args.toList,ts.toList with
   | [p,n],[pt,it]=>match P.underlying pt,cO P pt p,cO P it n with
     | some (.pointer e),some u,some v=>if P.cellsOf e=1 then some (.ust u v e) else none
     | _,_,_=>none
   | _,_=>none
 | { callee:=.builtin .max,args:=args,argTypes:=ts }=>match args.toList,ts.toList with
   | [x,y],[t,t']=>match cO P t x,cO P t' y with
     | some u,some v=>some (.mm true u v)
     | _,_=>none
   | _,_=>none
 | { callee:=.builtin .min,args:=args,argTypes:=ts }=>match args.toList,ts.toList with
   | [x,y],[t,t']=>match cO P t x,cO P t' y with
     | some u,some v=>some (.mm false u v)
     | _,_=>none
   | _,_=>none
 | { callee:=.invoke r name,args:=args,argTypes:=ts }=>match cO P 0 r,cOs P ts.toList args.toList with
   | some x,some xs=>some (if ((M4 P name).any fun y=>y.2.2.isSome)=true then .ivp (M4 P name) x xs else .inv (Qa P name) x xs)
   | _,_=>none
 | { callee:=.value (.func f),args:=args,argTypes:=ts }=>match cOs P ts.toList args.toList with
   | some xs=>some (.call f xs)
   | none=>none
 | { callee:=.value (.tmp g),args:=args,argTypes:=ts }=>match cOs P ts.toList args.toList with
   | some xs=>some (.callv (.t g) xs)
   | none=>none
 | _=>none
def IJ:Operand→Operand→Bool
 | .tmp a,.tmp b=>decide (a=b)
 | .const (.int k n),.const (.int k' n')=>decide (k=k'∧n=n')
 | _,_=>false
theorem DO {x y:Operand} (h:IJ x y=true):x=y:=by
 unfold IJ at h
 split at h
 · simp at h; rw [h]
 · simp at h; rw [h.1,h.2]
 · cases h
def Qq (P:Program) (op:BinOp) (xt:TypeId) (y:Operand):Option (Nat × Bool):=match y,op with
 | .const c,.eql=>match zy P xt c with
   | some k=>some (k,false)
   | none=>none
 | .const c,.neq=>match zy P xt c with
   | some k=>some (k,true)
   | none=>none
 | _,_=>none
theorem Hn {P:Program} {op:BinOp} {xt:TypeId} {y:Operand} {k:Nat} {neg:Bool} (h:Qq P op xt y=some (k,neg)):∃ c,y=.const c∧zy P xt c=some k∧((op=.eql∧neg=false)∨(op=.neq∧neg=true)):=by
 unfold Qq at h
 split at h
 · split at h
   · cases h; exact ⟨_,rfl,‹_›,.inl ⟨rfl,rfl⟩⟩
   · cases h
 · split at h
   · cases h; exact ⟨_,rfl,‹_›,.inr ⟨rfl,rfl⟩⟩
   · cases h
 · cases h
def cJ (P:Program) (ty:TypeId):Op→Option Act'
 | .move x=>(cO P ty x).map .mov
 | .assign x=>(cO P ty x).map .mov
 | .pick c a b=>match cO P ty c,cO P ty a,cO P ty b with
   | some c',some a',some b'=>some (.pick c' a' b')
   | _,_,_=>none
 | .field t x i=>match cO P t x,FH P t i with
   | some y,some (off,ft)=>match xW P ft with
     | some (n,g)=>some (.fld y off n g)
     | none=>none
   | _,_=>none
 | .fieldAddr t x i=>match cO P 0 x,FH P t i with
   | some y,some (off,ft)=>match dh P ft with
     | some n=>if n≠0 then some (.fa y off) else none
     | none=>none
   | _,_=>none
 | .indexAddr t x i=>match cO P 0 i,P.underlying t with
   | some j,some (.slice e)=>match cO P t x,dh P e with
     | some y,some n=>some (.ia y j n)
     | _,_=>none
   | some j,some (.array m e)=>match cO P 0 x,dh P e with
     | some y,some n=>some (.iaa y j m n)
     | _,_=>none
   | _,_=>none
 | .load t x=>match cO P 0 x,xW P t with
   | some y,some (n,g)=>some (.ld y n g)
   | _,_=>none
 | .index t x i=>match cO P t x,cO P 0 i,P.underlying t with
   | some y,some j,some .string=>some (.ixs y j)
   | some y,some j,some (.array m e)=>match xW P e with
     | some (n,g)=>some (.ixa y j m n g)
     | none=>none
   | _,_,_=>none
 | .binOp op xt x y yt=>match cO P xt x,Qq P op xt y with
   | some u,some (k,neg)=>some (.nlq k neg u)
   | some u,none=>match cO P yt y with
     | some v=>some (Qr P op xt u v)
     | none=>none
   | none,_=>none
 | .unOp op t x=>(cO P t x).map (.un op)
 | .convert s d x=>match cO P s x,P.underlying s,P.underlying d with
   | some u,some (.slice e),some .string=>match P.underlying e with
     | some (.int .u8)=>some (.b2s u)
     | _=>none
   | some u,some _,some (.int k)=>some (.cii k u)
   | some u,some (.int _),some .string=>some (.r2s u)
   | some u,some .string,some (.slice e)=>match P.underlying e with
     | some (.int .u8)=>some (.s2b u)
     | _=>none
   | some u,some (.slice e),some (.slice _)=>match P.underlying e with
     | some (.int .u8)=>if s=d then some (.cvb u) else none
     | _=>none
   | _,_,_=>none
 | .slice t x lo hi none=>match cO P t x,cOo P 0 lo,cOo P 0 hi with
   | some u,some lo',some hi'=>match P.underlying t with
     | some .string=>some (.sls u lo' hi')
     | some (.slice e)=>match dh P e with
       | some n=>some (.slq u lo' hi' n)
       | none=>none
     | _=>none
   | _,_,_=>none
 | .extract x i=>(cO P 0 x).map fun u=>.ext u i
 | .build t parts=>match P.built t [],P.info? t with
   | some _,some i=>match i.zero with
     | some (.agg z)=>match CP P 20 t with
       | some zc=>match cSs P zc z.toList,rx P t parts.toList with
         | some zs,some ps=>some (.bld zs ps)
         | _,_=>none
       | none=>none
     | _=>none
   | _,_=>none
 | .makeFunc f a b=>match cOs P (List.replicate a.size 0) a.toList,cOs P (List.replicate b.size 0) b.toList with
   | some a',some b'=>some (.mkf f a' b')
   | _,_=>none
 | .nilCheck x=>(cO P 0 x).map .nlc
 | .alloc e=>match P.info? e with
   | some i=>match i.zero with
     | some z=>match cV P e z with
       | some v=>if nt v=true then some (.alb e 0 (cl v)) else none
       | none=>none
     | none=>none
   | none=>none
 | .box e x=>(cO P e x).map .box
 | .store t p x=>match cO P 0 p,cO P t x,dh P t with
   | some p',some x',some n=>some (.st n p' x')
   | _,_,_=>none
 | .buildSlice t len parts=>match P.underlying t with
   | some (.slice e)=>match P.info? e with
     | some i=>match i.zero with
       | some z=>match cOs P (List.replicate len e) (parts.toList.map (·.2)) with
         | some xs=>if 0 < i.size∧z.cells.size=i.size∧len * i.size≤16777216∧parts.toList.map (·.1)=List.range len then some (.lit e i.size xs) else none
         | none=>none
       | none=>none
     | none=>none
   | _=>none
 | .makeSlice t l l'=>if IJ l l'=true then (match P.underlying t with
    | some (.slice e)=>match P.info? e with
      | some i=>match i.zero with
        | some (.slice none 0 0)=>match P.underlying e with
          | some (.slice e2)=>match P.info? e2,cO P 0 l with
            | some i2,some u=>if 0 < i.bytes∧i.size=1∧0 < i2.size then some (.mkm e i.bytes e2 i2.size u) else none
            | _,_=>none
          | _=>none
        | some z=>match cV P e z,cO P 0 l with
          | some v,some u=>match pur [] v with
            | some v'=>if nt v=true∧0 < i.bytes∧0 < i.size∧z.cells.size=i.size then some (.mks e i.size i.bytes v' u) else none
            | none=>none
          | _,_=>none
        | none=>none
      | none=>none
    | _=>none) else (match l with
      | .const (.int _ 0)=>(match P.underlying t with
        | some (.slice e)=>match P.info? e with
          | some i=>match i.zero,cO P 0 l' with
            | some _,some u=>if 0 < i.bytes∧0 < i.size then some (.mk0 e i.size i.bytes u) else none
            | _,_=>none
          | none=>none
        | _=>none)
      | _=>none)
 | .makeInterface t x=>match cO P t x,P.underlying t with
   | some u,some ds=>match ds with
     | .interface _=>none
     | _=>some (.mki t u)
   | _,_=>none
 | .typeAssert x xt t okk=>match P.underlying t,cO P xt x,P.info? t with
   | some ds,some u,some i=>match i.zero with
     | some z=>match cV P t z with
       | some zv=>match ds with
         | .interface _=>none
         | _=>some (.tya t zv okk u)
       | none=>none
     | none=>none
   | _,_,_=>none
 | .range t x=>match cO P t x,P.underlying t with
   | some u,some .string=>some (.rgs u)
   | _,_=>none
 | .next x true=>(cO P 0 x).map .nxs
 | .makeMap t none=>match P.underlying t with
   | some (.map K _)=>match ktT P K with
     | some kt=>some (.mkp kt)
     | none=>none
   | _=>none
 | .lookup t x k okk=>match P.underlying t with
   | some (.map K E)=>match ktT P K,cO P t x,cO P K k,P.info? E with
     | some kt,some u,some v,some i=>match i.zero with
       | some z=>match cV P E z with
         | some zv=>some (.lkp kt zv okk u v)
         | none=>none
       | none=>none
     | _,_,_,_=>none
   | _=>none
 | .mapUpdate t x k v=>match P.underlying t with
   | some (.map K E)=>match ktT P K,cO P t x,cO P K k,cO P E v with
     | some kt,some u,some b,some c=>some (.mup kt u b c)
     | _,_,_,_=>none
   | _=>none
 | .insert t x k v=>match P.underlying t with
   | some (.map K E)=>match ktT P K,cO P t x,cO P K k,cO P E v with
     | some kt,some u,some b,some c=>some (.mup kt u b c)
     | _,_,_,_=>none
   | _=>none
 | .call c=>Km P c
 | _=>none
theorem jI {P:Program} {t:TypeId} {n:Nat} {g:Bool} (h:xW P t=some (n,g)):dh P t=some n∧nT P t=some g∧(g=false→n=1):=by
 unfold xW at h
 split at h
 · rename_i n' g' h1 h2
   split at h
   · rename_i hc
     cases h
     exact ⟨h1,h2,fun hg=>by rcases hc with h | h; · rw [hg] at h; cases h
                             · exact h⟩
   · cases h
 · cases h
theorem vz {P:Program} {t:TypeId} {i off:Nat} {ft:TypeId} (h:FH P t i=some (off,ft)):∃ fs f,P.underlying t=some (.struct fs)∧fs[i]?=some f∧off=f.offset∧ft=f.type:=by
 unfold FH at h
 split at h
 · rename_i fs h1
   split at h
   · rename_i f h2; cases h; exact ⟨fs,f,h1,h2,rfl,rfl⟩
   · cases h
 · cases h
theorem Ho {P:Program} {ty xt yt:TypeId} {op:BinOp} {x y:Operand} {u v:AO} (hu:cO P xt x=some u) (hv:cO P yt y=some v):LV P ty (.binOp op xt x y yt) (Qr P op xt u v):=by
 unfold Qr
 split
 · exact .beq ‹_› hu hv
 · exact .bne ‹_› hu hv
 all_goals
  first
   | exact .bin hu hv
   | (split
      · split
        · first | exact .aeq ‹_› ‹_› hu hv | exact .ane ‹_› ‹_› hu hv
        · exact .bin hu hv
      · exact .bin hu hv)
theorem EV {P:Program} {ty:TypeId} {c:Call} {x:Act'} (h:Km P c=some x):LV P ty (.call c) x∨LE P ty (.call c) x:=by
 unfold Km at h
 split at h
 · rename_i args ts
   split at h
   · rename_i x t hx ht
     have e1:args=#[x]:=by apply Array.ext'; simpa using hx
     have e2:ts=#[t]:=by apply Array.ext'; simpa using ht
     subst e1; subst e2
     split at h
     · cases h; exact .inl (.lens ‹_› ‹_›)
     · cases h; exact .inl (.lenq ‹_› ‹_›)
     · cases h
   · cases h
 · rename_i args ts
   split at h
   · rename_i x y t t' hx ht
     have e1:args=#[x,y]:=by apply Array.ext'; simpa using hx
     have e2:ts=#[t,t']:=by apply Array.ext'; simpa using ht
     subst e1; subst e2
     split at h
     · rename_i ett
       subst ett
       split at h
       · split at h
         · split at h
           · split at h
             · rename_i hc; cases h; exact .inr (.app ‹_› ‹_› ‹_› rfl rfl hc.1 hc.2.1 hc.2.2 ‹_› ‹_›)
             · cases h
           · cases h
         · cases h
       · cases h
     · split at h
       · rename_i h1 h2
         split at h
         · rename_i h3
           split at h
           · rename_i h4 h5 h6
             split at h
             · rename_i hc; cases h; exact .inr (.aps h1 h2 h3 h4 hc.1 hc.2 h5 h6)
             · cases h
           · cases h
         · cases h
       · cases h
   · cases h
 · rename_i args ts
   split at h
   · rename_i x k t t' hx ht
     have e1:args=#[x,k]:=by apply Array.ext'; simpa using hx
     have e2:ts=#[t,t']:=by apply Array.ext'; simpa using ht
     subst e1; subst e2
     split at h
     · rename_i h1
       split at h
       · rename_i ett
         subst ett
         split at h
         · rename_i h2 h3 h4
           cases h; exact .inr (.del h1 h2 h3 h4)
         · cases h
       · cases h
     · cases h
   · cases h
 · rename_i args ts
   split at h
   · rename_i x t hx ht
     have e1:args=#[x]:=by apply Array.ext'; simpa using hx
     have e2:ts=#[t]:=by apply Array.ext'; simpa using ht
     subst e1; subst e2
     split at h
     · rename_i h1 h2
       cases h; exact .inr (.usd h1 h2)
     · cases h
   · cases h
 · rename_i args ts
   split at h
   · rename_i p n pt it hx ht
     have e1:args=#[p,n]:=by apply Array.ext'; simpa using hx
     have e2:ts=#[pt,it]:=by apply Array.ext'; simpa using ht
     subst e1; subst e2
     split at h
     · rename_i h1 h2 h3
       split at h
       · rename_i hc
         cases h; exact .inr (.ust h1 hc h2 h3)
       · cases h
     · cases h
   · cases h
 · rename_i args ts
   split at h
   · rename_i x y t t' hx ht
     have e1:args=#[x,y]:=by apply Array.ext'; simpa using hx
     have e2:ts=#[t,t']:=by apply Array.ext'; simpa using ht
     subst e1; subst e2
     split at h
     · cases h; exact .inl (.mmx ‹_› ‹_›)
     · cases h
   · cases h
 · rename_i args ts
   split at h
   · rename_i x y t t' hx ht
     have e1:args=#[x,y]:=by apply Array.ext'; simpa using hx
     have e2:ts=#[t,t']:=by apply Array.ext'; simpa using ht
     subst e1; subst e2
     split at h
     · cases h; exact .inl (.mmn ‹_› ‹_›)
     · cases h
   · cases h
 · split at h
   · simp only [Option.some.injEq] at h
     subst h
     split
     · exact .inr (.ivp ‹_› rfl ‹_›)
     · exact .inr (.inv ‹_› rfl ‹_›)
   · cases h
 · split at h
   · cases h; exact .inr (.call ‹_›)
   · cases h
 · split at h
   · cases h; exact .inr (.callv ‹_›)
   · cases h
 · cases h
theorem Hp {P:Program} {ty:TypeId} {o:Op} {x:Act'} (h:cJ P ty o=some x):LV P ty o x∨LE P ty o x:=by
 cases o with
 | move x=>simp only [cJ,Option.map_eq_some_iff] at h; obtain ⟨y,hy,rfl⟩:=h; exact .inl (.move hy)
 | assign x=>simp only [cJ,Option.map_eq_some_iff] at h; obtain ⟨y,hy,rfl⟩:=h; exact .inl (.assign hy)
 | pick c a b=>
   simp only [cJ] at h
   split at h
   · cases h; exact .inl (.pick ‹_› ‹_› ‹_›)
   · cases h
 | field t x i=>
   simp only [cJ] at h
   split at h
   · rename_i y off ft hy hs
     obtain ⟨fs,f,h1,h2,rfl,rfl⟩:=vz hs
     split at h
     · rename_i n g hn
       obtain ⟨k1,k2,k3⟩:=jI hn
       cases h; exact .inl (.field hy h1 h2 k1 k2 k3)
     · cases h
   · cases h
 | fieldAddr t x i=>
   simp only [cJ] at h
   split at h
   · rename_i y off ft hy hs
     obtain ⟨fs,f,h1,h2,rfl,rfl⟩:=vz hs
     split at h
     · split at h
       · cases h; exact .inl (.fieldAddr hy h1 h2 ‹_› ‹_›)
       · cases h
     · cases h
   · cases h
 | indexAddr t x i=>
   simp only [cJ] at h
   split at h
   · split at h
     · cases h; exact .inl (.indexAddr ‹_› ‹_› ‹_› ‹_›)
     · cases h
   · split at h
     · cases h; exact .inl (.indexAddrA ‹_› ‹_› ‹_› ‹_›)
     · cases h
   · cases h
 | load t x=>
   simp only [cJ] at h
   split at h
   · rename_i y n g hy hs
     obtain ⟨k1,k2,k3⟩:=jI hs
     cases h; exact .inl (.load hy k1 k2 k3)
   · cases h
 | index t x i=>
   simp only [cJ] at h
   split at h
   · cases h; exact .inl (.indexS ‹_› ‹_› ‹_›)
   · split at h
     · rename_i n g hs
       obtain ⟨k1,k2,k3⟩:=jI hs
       cases h; exact .inl (.indexA ‹_› ‹_› ‹_› k1 k2 k3)
     · cases h
   · cases h
 | binOp op xt x y yt=>
   simp only [cJ] at h
   split at h
   · rename_i hn
     cases h
     obtain ⟨c,rfl,h1,h2⟩:=Hn hn
     exact .inl (.nlq h1 h2 ‹_›)
   · split at h
     · cases h; exact .inl (Ho ‹_› ‹_›)
     · cases h
   · cases h
 | unOp op t x=>simp only [cJ,Option.map_eq_some_iff] at h; obtain ⟨y,hy,rfl⟩:=h; exact .inl (.un hy)
 | convert s d x=>
   simp only [cJ] at h
   split at h
   · split at h
     · cases h; exact .inr (.b2s ‹_› ‹_› ‹_› ‹_›)
     · cases h
   · cases h; exact .inl (.cii ‹_› ‹_› ‹_›)
   · cases h; exact .inl (.r2s ‹_› ‹_› ‹_›)
   · split at h
     · cases h; exact .inr (.s2b ‹_› ‹_› ‹_› ‹_›)
     · cases h
   · split at h
     · split at h
       · rename_i e
         subst e
         cases h
         have h8:=‹P.underlying _=some (TypeDesc.int IntKind.u8)›
         exact .inr (.cvb ‹_› (by assumption) h8)
       · cases h
     · cases h
   · cases h
 | slice t x lo hi m=>
   cases m with
   | some m=>simp only [cJ] at h; cases h
   | none=>
     simp only [cJ] at h
     split at h
     · split at h
       · cases h; exact .inl (.sls ‹_› ‹_› ‹_› ‹_›)
       · split at h
         · cases h; exact .inl (.slq ‹_› ‹_› ‹_› ‹_› ‹_›)
         · cases h
       · cases h
     · cases h
 | extract x i=>simp only [cJ,Option.map_eq_some_iff] at h; obtain ⟨y,hy,rfl⟩:=h; exact .inl (.ext hy)
 | build t parts=>
   simp only [cJ] at h
   split at h
   · split at h
     · split at h
       · split at h
         · cases h; exact .inl (.bld ‹_› ‹_› ‹_› ‹_› ‹_› ‹_›)
         · cases h
       · cases h
     · cases h
   · cases h
 | makeFunc f a b=>
   simp only [cJ] at h
   split at h
   · cases h; exact .inl (.mkf ‹_› ‹_›)
   · cases h
 | nilCheck x=>simp only [cJ,Option.map_eq_some_iff] at h; obtain ⟨y,hy,rfl⟩:=h; exact .inl (.nlc hy)
 | alloc e=>
   simp only [cJ] at h
   split at h
   · split at h
     · split at h
       · split at h
         · cases h; exact .inr (.alb ‹_› ‹_› ‹_› ‹_›)
         · cases h
       · cases h
     · cases h
   · cases h
 | box e x=>simp only [cJ,Option.map_eq_some_iff] at h; obtain ⟨y,hy,rfl⟩:=h; exact .inr (.box hy)
 | store t p x=>
   simp only [cJ] at h
   split at h
   · cases h; exact .inr (.store ‹_› ‹_› ‹_›)
   · cases h
 | buildSlice t len parts=>
   simp only [cJ] at h
   split at h
   · split at h
     · split at h
       · split at h
         · split at h
           · rename_i hc; cases h; exact .inr (.lit ‹_› ‹_› rfl hc.1 ‹_› hc.2.1 hc.2.2.1 hc.2.2.2 ‹_›)
           · cases h
         · cases h
       · cases h
     · cases h
   · cases h
 | makeSlice t l l'=>
   simp only [cJ] at h
   split at h
   · rename_i hab
     have hab:=DO hab
     subst hab
     split at h
     · split at h
       · split at h
         · split at h
           · split at h
             · split at h
               · rename_i hc; cases h; exact .inr (.mkm ‹_› ‹_› ‹_› hc.2.1 rfl hc.1 ‹_› ‹_› rfl hc.2.2 ‹_›)
               · cases h
             · cases h
           · cases h
         · split at h
           · split at h
             · split at h
               · rename_i hc; cases h; exact .inr (.mks ‹_› ‹_› ‹_› ‹_› hc.1 ‹_› rfl rfl hc.2.1 hc.2.2.1 ‹_› hc.2.2.2)
               · cases h
             · cases h
           · cases h
         · cases h
       · cases h
     · cases h
   · split at h
     · split at h
       · split at h
         · split at h
           · split at h
             · rename_i hc; cases h; exact .inr (.mk0 ‹_› ‹_› ‹_› rfl rfl hc.1 hc.2 ‹_›)
             · cases h
           · cases h
         · cases h
       · cases h
     · cases h
 | makeInterface t x=>
   simp only [cJ] at h
   split at h
   · rename_i u ds hu hds
     split at h
     · cases h
     · rename_i hne
       cases h; exact .inl (.mki hu hds (fun ms e=>hne ms e))
   · cases h
 | typeAssert x xt t okk=>
   simp only [cJ] at h
   split at h
   · rename_i ds u i hds hu hi
     split at h
     · rename_i z hz
       split at h
       · rename_i zv hzv
         split at h
         · cases h
         · rename_i hne
           cases h; exact .inl (.tya hds (fun ms e=>hne ms e) hu hi hz hzv)
       · cases h
     · cases h
   · cases h
 | range t x=>
   simp only [cJ] at h
   split at h
   · cases h; exact .inr (.rgs ‹_› ‹_›)
   · cases h
 | next x b=>
   cases b with
   | true=>
     simp only [cJ,Option.map_eq_some_iff] at h
     obtain ⟨u,hu,rfl⟩:=h
     exact .inr (.nxs hu)
   | false=>simp only [cJ] at h; cases h
 | makeMap t r=>
   cases r with
   | some r=>simp only [cJ] at h; cases h
   | none=>
     simp only [cJ] at h
     split at h
     · split at h
       · cases h; exact .inr (.mkp ‹_› ‹_›)
       · cases h
     · cases h
 | lookup t x k okk=>
   simp only [cJ] at h
   split at h
   · split at h
     · split at h
       · split at h
         · cases h; exact .inl (.lkp ‹_› ‹_› ‹_› ‹_› ‹_› ‹_› ‹_›)
         · cases h
       · cases h
     · cases h
   · cases h
 | mapUpdate t x k v=>
   simp only [cJ] at h
   split at h
   · split at h
     · cases h; exact .inr (.mup ‹_› ‹_› ‹_› ‹_› ‹_›)
     · cases h
   · cases h
 | insert t x k v=>
   simp only [cJ] at h
   split at h
   · split at h
     · cases h; exact .inr (.mui ‹_› ‹_› ‹_› ‹_› ‹_›)
     · cases h
   · cases h
 | call c=>simp only [cJ] at h; exact EV h
 | _=>simp only [cJ] at h; cases h
def Kj (P:Program) (N:Nat) (ps:List Nat) (ops:Array Oper) (o:Oper):Option AOp:=
 match (cJ P o.type o.op).getD .bad,(match o.dst with
  | some t=>decide (t < N) && !fd t ps
  | none=>true) with
 | a,true=>match o.guard with
   | none=>some ⟨o.dst,a,none⟩
   | some (j,b)=>match ops[j]? with
     | some oj=>match oj.dst with
       | some t=>some ⟨o.dst,a,some (t,b)⟩
       | none=>none
     | none=>none
 | _,_=>none
def kh (P:Program) (N:Nat) (ps:List Nat) (ops:Array Oper):List Oper→Option (List AOp)
 | []=>some []
 | o::os=>match Kj P N ps ops o,kh P N ps ops os with
   | some x,some xs=>some (x::xs)
   | _,_=>none
def mkD (E:List Nat) (d:Option Nat):Bool:=match d with
 | some t=>fd (3000000 + t) E
 | none=>false
def mkC (E:List Nat) (d:Option Nat):Bool:=match d with
 | some t=>fd (5000000 + t) E
 | none=>false
def mkB (E:List Nat) (d:Option Nat):Option Nat:=match d with
 | some t=>(E.find? fun m=>decide (m / 1000000=1000000 + t)).map (· % 1000000)
 | none=>none
def Qf (E:List Nat) (x:AOp):AOp:=match x.a with
 | .call f xs=>if (fd f E || mkC E x.d)=true then ⟨x.d,.callH f xs,x.g⟩ else x
 | .slq y none (some hi) sz=>if fd 1000000 E=true then ⟨x.d,.trc y hi sz,x.g⟩ else x
 | .callv g xs=>if fd 1000002 E=true then ⟨x.d,.yld g xs,x.g⟩ else x
 | .lit e sz ys=>if (fd 1000001 E || (fd (2000000 + e) E || mkD E x.d))=true then ⟨x.d,.ltr e sz ys,x.g⟩ else x
 | .alb t _ z=>if mkD E x.d=true then ⟨x.d,.alq z,x.g⟩ else match mkB E x.d with
   | some e=>⟨x.d,.alb t e z,x.g⟩
   | none=>⟨x.d,.alc z,x.g⟩
 | .mks e sz by' z n=>if mkD E x.d=true then ⟨x.d,.mkq e sz by' z n,x.g⟩ else x
 | .s2b y=>if mkD E x.d=true then ⟨x.d,.sbq y,x.g⟩ else x
 | .box y=>if mkD E x.d=true then ⟨x.d,.bxq y,x.g⟩ else x
 | .app (.v (.nil _)) y e sz by'=>if mkD E x.d=true then ⟨x.d,.apz y e sz by',x.g⟩ else x
 | .app (.t r) y e sz by'=>if (mkD E x.d && (decide (sz=1) && decide (by'=1)))=true then ⟨x.d,.apb (.t r) y e,x.g⟩ else x
 | _=>x
def fHs (E:List Nat):List AOp→List AOp
 | []=>[]
 | x::xs=>Qf E x::fHs E xs
section
variable {P:Program}
theorem NN {ty:TypeId} {op:Op} {f:FuncId} {xs:List AO} (h:LV P ty op (.call f xs)):False:=by cases h
theorem KU {ty:TypeId} {op:Op} {f:FuncId} {xs:List AO} (h:LE P ty op (.call f xs)):LE P ty op (.callH f xs):=by
 cases h; exact .callH ‹_›
theorem KQ {ty:TypeId} {op:Op} {f:AO} {xs:List AO} (h:LV P ty op (.callv f xs)):False:=by cases h
theorem RF {ty:TypeId} {op:Op} {f:AO} {xs:List AO} (h:LE P ty op (.callv f xs)):LE P ty op (.yld f xs):=by
 cases h; exact .yld ‹_›
theorem RC {ty:TypeId} {op:Op} {e sz:Nat} {xs:List AO} (h:LV P ty op (.lit e sz xs)):False:=by cases h
theorem RJ {ty:TypeId} {op:Op} {e sz:Nat} {xs:List AO} (h:LE P ty op (.lit e sz xs)):LE P ty op (.ltr e sz xs):=by
 cases h with
 | lit h1 h2 h3 h4 h5 h6 h7 h8 h9=>exact .ltr h1 h2 h3 h4 h5 h6 h7 h8 h9
theorem E7 {ty:TypeId} {op:Op} {z:List V} {t q:Nat} (h:LV P ty op (.alb t q z)):False:=by cases h
theorem RN {ty:TypeId} {op:Op} {z:List V} {t q:Nat} (h:LE P ty op (.alb t q z)):LE P ty op (.alq z):=by
 cases h with
 | alb h1 h2 h3 h4=>exact .alq h1 h2 h3 h4
theorem RO {ty:TypeId} {op:Op} {z:List V} {t q:Nat} (h:LE P ty op (.alb t q z)):LE P ty op (.alc z):=by
 cases h with
 | alb h1 h2 h3 h4=>exact .alloc h1 h2 h3 h4
theorem RP {ty:TypeId} {op:Op} {z:List V} {t p q:Nat} (h:LE P ty op (.alb t p z)):LE P ty op (.alb t q z):=by
 cases h with
 | alb h1 h2 h3 h4=>exact .alb h1 h2 h3 h4
theorem RM {ty:TypeId} {op:Op} {x y:AO} {e:Nat} (h:LE P ty op (.app x y e 1 1)):LE P ty op (.apb x y e):=by
 cases h with
 | app h1 h2 h3 h4 h5 h6 h7 h8 h9 h10=>exact .apb h1 h2 h3 h4 h5 h7 h9 h10
theorem RB {ty:TypeId} {op:Op} {e sz by':Nat} {z:V} {n:AO} (h:LV P ty op (.mks e sz by' z n)):False:=by cases h
theorem RI {ty:TypeId} {op:Op} {e sz by':Nat} {z:V} {n:AO} (h:LE P ty op (.mks e sz by' z n)):LE P ty op (.mkq e sz by' z n):=by
 cases h with
 | mks h1 h2 h3 h4 h5 h6 h7 h8 h9 h10 h11 h12=>exact .mkq h1 h2 h3 h4 h5 h6 h7 h8 h9 h10 h11 h12
theorem RA {ty:TypeId} {op:Op} {y:AO} (h:LV P ty op (.s2b y)):False:=by cases h
theorem RH {ty:TypeId} {op:Op} {y:AO} (h:LE P ty op (.s2b y)):LE P ty op (.sbq y):=by
 cases h with
 | s2b h1 h2 h3 h4=>exact .sbq h1 h2 h3 h4
theorem RE {ty:TypeId} {op:Op} {y:AO} (h:LV P ty op (.box y)):False:=by cases h
theorem RK {ty:TypeId} {op:Op} {y:AO} (h:LE P ty op (.box y)):LE P ty op (.bxq y):=by
 cases h with
 | box h1=>exact .bxq h1
theorem KR {ty:TypeId} {op:Op} {x y:AO} {e sz by':Nat} (h:LV P ty op (.app x y e sz by')):False:=by cases h
theorem RL {ty:TypeId} {op:Op} {s0:Nat} {y:AO} {e sz by':Nat} (h:LE P ty op (.app (.v (.nil s0)) y e sz by')):LE P ty op (.apz y e sz by'):=by
 cases h with
 | app h1 h2 h3 h4 h5 h6 h7 h8 h9 h10=>exact .apz h1 h2 h3 h4 h5 h6 h7 h8 h9 h10
theorem RG {ty:TypeId} {op:Op} {y:AO} {lo hi:Option AO} {sz:Nat} (h:LE P ty op (.slq y lo hi sz)):False:=by cases h
theorem Kl {t:TypeId} {o:Option Operand} (h:cOo P t o=some none):o=none:=by
 cases o with
 | none=>rfl
 | some o=>simp only [cOo,Option.map_eq_some_iff] at h; obtain ⟨_,_,h⟩:=h; cases h
theorem Kk {t:TypeId} {o:Option Operand} {y:AO} (h:cOo P t o=some (some y)):∃ o',o=some o'∧cO P t o'=some y:=by
 cases o with
 | none=>simp only [cOo,Option.some.injEq] at h; cases h
 | some o=>simp only [cOo,Option.map_eq_some_iff] at h; obtain ⟨z,h,e⟩:=h; cases e; exact ⟨o,rfl,h⟩
theorem Rz {ty:TypeId} {op:Op} {y hi:AO} {sz:Nat} (h:LV P ty op (.slq y none (some hi) sz)):LE P ty op (.trc y hi sz):=by
 cases h with
 | slq h1 h2 h3 h4 h5=>
   have e1:=Kl h2
   obtain ⟨o',e2,h6⟩:=Kk h3
   subst e1; subst e2
   exact .trc h1 h6 h4 h5
theorem G3 {E ps:List Nat} {N:Nat} {ops:Array Oper} {o:Oper} {x:AOp} (h:LO P N ps ops o x):LO P N ps ops o (Qf E x):=by
 unfold Qf
 split
 · rename_i f xs hx
   split
   · refine ⟨h.dst,h.lt,.inr (.inl ?_),h.grd⟩
     rcases h.act with h1 | h1 | h1
     · rw [hx] at h1; exact (NN h1).elim
     · rw [hx] at h1; exact KU h1
     · rw [hx] at h1; cases h1
   · exact h
 · rename_i y hi sz hx
   split
   · refine ⟨h.dst,h.lt,.inr (.inl ?_),h.grd⟩
     rcases h.act with h1 | h1 | h1
     · rw [hx] at h1; exact Rz h1
     · rw [hx] at h1; exact (RG h1).elim
     · rw [hx] at h1; cases h1
   · exact h
 · rename_i g xs hx
   split
   · refine ⟨h.dst,h.lt,.inr (.inl ?_),h.grd⟩
     rcases h.act with h1 | h1 | h1
     · rw [hx] at h1; exact (KQ h1).elim
     · rw [hx] at h1; exact RF h1
     · rw [hx] at h1; cases h1
   · exact h
 · rename_i e sz ys hx
   split
   · refine ⟨h.dst,h.lt,.inr (.inl ?_),h.grd⟩
     rcases h.act with h1 | h1 | h1
     · rw [hx] at h1; exact (RC h1).elim
     · rw [hx] at h1; exact RJ h1
     · rw [hx] at h1; cases h1
   · exact h
 · rename_i t q z hx
   split
   · refine ⟨h.dst,h.lt,.inr (.inl ?_),h.grd⟩
     rcases h.act with h1 | h1 | h1
     · rw [hx] at h1; exact (E7 h1).elim
     · rw [hx] at h1; exact RN h1
     · rw [hx] at h1; cases h1
   · split
     · refine ⟨h.dst,h.lt,.inr (.inl ?_),h.grd⟩
       rcases h.act with h1 | h1 | h1
       · rw [hx] at h1; exact (E7 h1).elim
       · rw [hx] at h1; exact RP h1
       · rw [hx] at h1; cases h1
     · refine ⟨h.dst,h.lt,.inr (.inl ?_),h.grd⟩
       rcases h.act with h1 | h1 | h1
       · rw [hx] at h1; exact (E7 h1).elim
       · rw [hx] at h1; exact RO h1
       · rw [hx] at h1; cases h1
 · rename_i e sz by' z n hx
   split
   · refine ⟨h.dst,h.lt,.inr (.inl ?_),h.grd⟩
     rcases h.act with h1 | h1 | h1
     · rw [hx] at h1; exact (RB h1).elim
     · rw [hx] at h1; exact RI h1
     · rw [hx] at h1; cases h1
   · exact h
 · rename_i y hx
   split
   · refine ⟨h.dst,h.lt,.inr (.inl ?_),h.grd⟩
     rcases h.act with h1 | h1 | h1
     · rw [hx] at h1; exact (RA h1).elim
     · rw [hx] at h1; exact RH h1
     · rw [hx] at h1; cases h1
   · exact h
 · rename_i y hx
   split
   · refine ⟨h.dst,h.lt,.inr (.inl ?_),h.grd⟩
     rcases h.act with h1 | h1 | h1
     · rw [hx] at h1; exact (RE h1).elim
     · rw [hx] at h1; exact RK h1
     · rw [hx] at h1; cases h1
   · exact h
 · rename_i s0 y e sz by' hx
   split
   · refine ⟨h.dst,h.lt,.inr (.inl ?_),h.grd⟩
     rcases h.act with h1 | h1 | h1
     · rw [hx] at h1; exact (KR h1).elim
     · rw [hx] at h1; exact RL h1
     · rw [hx] at h1; cases h1
   · exact h
 · rename_i r y e sz by' hx
   split
   · rename_i hc
     simp only [Bool.and_eq_true,decide_eq_true_eq] at hc
     obtain ⟨_,rfl,rfl⟩:=hc
     refine ⟨h.dst,h.lt,.inr (.inl ?_),h.grd⟩
     rcases h.act with h1 | h1 | h1
     · rw [hx] at h1; exact (KR h1).elim
     · rw [hx] at h1; exact RM h1
     · rw [hx] at h1; cases h1
   · exact h
 · exact h
theorem JU {E ps:List Nat} {N:Nat} {ops:Array Oper} {os:List Oper} {xs:List AOp} (h:LOs P N ps ops os xs):LOs P N ps ops os (fHs E xs):=by
 induction h with
 | nil=>exact .nil
 | cons h1 _ ih=>exact .cons (G3 h1) ih
end
def uh:AC→Bool
 | .seq a b=>uh a && uh b
 | .label _=>false
 | .bad=>false
 | _=>true
def oF (l:Nat):AC→Option AC
 | .seq a b=>match oF l a with
   | some r=>some (.seq r b)
   | none=>if uh a=true then oF l b else none
 | .label l'=>if (l' == l)=true then some .skip else none
 | _=>none
theorem D2 {P:Program} {N:Nat} {ps:List Nat} {c:Code} {a:AC} (h:LC P N ps c a) (l:Nat):uh a=true→findLabel c l=none:=by
 induction h with
 | seq _ _ ih1 ih2=>
   intro hn
   simp only [uh,Bool.and_eq_true] at hn
   simp only [findLabel,ih1 hn.1,ih2 hn.2]
 | label=>intro hn; simp [uh] at hn
 | bad=>intro hn; simp [uh] at hn
 | _=>intro _; rfl
theorem CV {P:Program} {N:Nat} {ps:List Nat} {c:Code} {a:AC} (h:LC P N ps c a) {l:Nat}:∀ {b:AC},oF l a=some b→∃ rest,findLabel c l=some rest∧LC P N ps rest b:=by
 induction h with
 | seq h1 h2 ih1 ih2=>
   intro b hb
   simp only [oF] at hb
   split at hb
   · cases hb
     obtain ⟨r,g1,g2⟩:=ih1 ‹_›
     exact ⟨_,by simp only [findLabel,g1],.seq g2 h2⟩
   · split at hb
     · rename_i hn
       obtain ⟨r,g1,g2⟩:=ih2 hb
       exact ⟨r,by simp only [findLabel,D2 h1 l hn,g1],g2⟩
     · cases hb
 | @label l'=>
   intro b hb
   simp only [oF] at hb
   split at hb
   · rename_i he
     cases hb
     exact ⟨.skip,by simp only [findLabel,he,if_true],.skip⟩
   · cases hb
 | _=>intro b hb; simp [oF] at hb
def bo (P:Program) (N:Nat) (ps E:List Nat):Code→List (List Nat)→Option (AC × List (List Nat))
 | .skip,K=>some (.skip,K)
 | .region _ ops false,ks::K=>match (kh P N ps ops ops.toList).map (fHs E) with
   | some xs=>some (.reg xs ks,K)
   | none=>none
 | .region _ ops true,[]::ks::K=>match (kh P N ps ops ops.toList).map (fHs E) with
   | some xs=>if qV xs=true∧ops.size=xs.length then (match uf xs (ww ops ops.size (Array.replicate ops.size false)) with
     | some yss=>some (.regE yss ks,K)
     | none=>none) else some (.bad,K)
   | none=>none
 | .region _ ops true,(1::anc)::ks::K=>match (kh P N ps ops ops.toList).map (fHs E) with
   | some xs=>if AW ops anc=true then (match Ed ops xs anc ops.size (Array.replicate ops.size false) with
     | some yss=>some (.regF yss ks,K)
     | none=>none) else none
   | none=>none
 | .region _ ops true,(0::anc)::perm::ks::K=>match (kh P N ps ops ops.toList).map (fHs E) with
   | some xs=>if rl ops xs anc perm=true then (match gn xs perm with
     | some ys=>some (.regD ys ks,K)
     | none=>none) else none
   | none=>none
 | .seq x y,K=>match bo P N ps E x K with
   | some (a,K')=>match bo P N ps E y K' with
     | some (b,K'')=>some (.seq a b,K'')
     | none=>none
   | none=>none
 | .cond c x y,K=>match cO P 0 c,bo P N ps E x K with
   | some c',some (a,K')=>match bo P N ps E y K' with
     | some (b,K'')=>some (.cond c' a b,K'')
     | none=>none
   | _,_=>none
 | .block id x,K=>match bo P N ps E x K with
   | some (a,K')=>some (.block id a,K')
   | none=>none
 | .loop x,ks::K=>match bo P N ps E x K with
   | some (a,K')=>some (.loop ks a,K')
   | none=>none
 | .exit id,K=>some (.exit id,K)
 | .ret,K=>some (.ret,K)
 | .rangeFunc _ _ _ _,K=>some (.bad,K)
 | .scope x,(l::ks)::K=>match bo P N ps E x K with
   | some (a,K')=>match oF l a with
     | some b=>some (.scope l ks a b,K')
     | none=>some (.bad,K')
   | none=>none
 | .scope _,[]::K=>some (.bad,K)
 | .label l,K=>some (.label l,K)
 | .goto l,K=>some (.goto l,K)
 | .refuse _,K=>some (.bad,K)
 | .region _ _ _,_=>none
 | .loop _,_=>none
 | .scope _,_=>none
section
variable {P:Program} {N:Nat} {ps:List Nat}
theorem EU {ops:Array Oper} {o:Oper} {x:AOp} (h:Kj P N ps ops o=some x):LO P N ps ops o x:=by
 unfold Kj at h
 split at h
 · rename_i a hd
   have ha:LV P o.type o.op ((cJ P o.type o.op).getD .bad)∨LE P o.type o.op ((cJ P o.type o.op).getD .bad)∨(cJ P o.type o.op).getD .bad=.bad:=by
    cases hc:cJ P o.type o.op with
    | none=>exact .inr (.inr rfl)
    | some y=>exact (Hp hc).elim .inl (fun h=>.inr (.inl h))
   have hlt:∀ t,o.dst=some t→t < N∧t ∉ ps:=by
    intro t ht
    rw [ht] at hd
    simp only [Bool.and_eq_true,decide_eq_true_eq,Bool.not_eq_true'] at hd
    exact ⟨hd.1,fun hm=>by rw [fO.2 hm] at hd; cases hd.2⟩
   split at h
   · rename_i hg
     cases h
     exact ⟨rfl,hlt,ha,.inl ⟨hg,rfl⟩⟩
   · rename_i j b hg
     split at h
     · rename_i oj hj
       split at h
       · rename_i t ht
         cases h
         exact ⟨rfl,hlt,ha,.inr ⟨j,b,oj,t,hg,hj,ht,rfl⟩⟩
       · cases h
     · cases h
 · cases h
theorem sE {ops:Array Oper}:∀ {os:List Oper} {xs:List AOp},kh P N ps ops os=some xs→LOs P N ps ops os xs
 | [],xs,h=>by simp only [kh,Option.some.injEq] at h; subst h; exact .nil
 | o::os,xs,h=>by
   simp only [kh] at h
   split at h
   · rename_i x ys hx hy; cases h; exact .cons (EU hx) (sE hy)
   · cases h
theorem pM {E:List Nat} {ops:Array Oper} {xs:List AOp} (h:(kh P N ps ops ops.toList).map (fHs E)=some xs):LOs P N ps ops ops.toList xs:=by
 obtain ⟨ys,h1,rfl⟩:=Option.map_eq_some_iff.1 h
 exact JU (sE h1)
theorem cY {E:List Nat}:∀ {c:Code} {K K':List (List Nat)} {a:AC},bo P N ps E c K=some (a,K')→LC P N ps c a:=by
 intro c
 induction c with
 | skip=>intro K K' a h; simp only [bo,Option.some.injEq,Prod.mk.injEq] at h; rw [←h.1]; exact .skip
 | region id ops d=>
   intro K K' a h
   cases d with
   | false=>
     cases K with
     | nil=>simp only [bo] at h; cases h
     | cons ks K=>
       simp only [bo] at h
       split at h
       · cases h; exact .reg (pM ‹_›)
       · cases h
   | true=>
     match K,h with
     | [],h=>simp only [bo] at h; cases h
     | [[]],h=>simp only [bo] at h; cases h
     | [_::_],h=>simp only [bo] at h; cases h
     | []::ks::K,h=>
       simp only [bo] at h
       split at h
       · split at h
         · rename_i hc
           split at h
           · cases h; exact .regE (pM ‹_›) hc.1 hc.2 ‹_›
           · cases h
         · cases h; exact .bad
       · cases h
     | [0::anc,perm],h=>simp only [bo] at h; cases h
     | (1::anc)::ks::K,h=>
       simp only [bo] at h
       split at h
       · split at h
         · rename_i hc
           split at h
           · cases h; exact .regF (pM ‹_›) hc ‹_›
           · cases h
         · cases h
       · cases h
     | ((n + 2)::l)::k::K,h=>simp only [bo] at h; cases h
     | (0::anc)::perm::ks::K,h=>
       simp only [bo] at h
       split at h
       · split at h
         · rename_i hc
           split at h
           · cases h; exact .regD (pM ‹_›) hc ‹_›
           · cases h
         · cases h
       · cases h
 | seq x y ihx ihy=>
   intro K K' a h
   simp only [bo] at h
   split at h
   · split at h
     · cases h; exact .seq (ihx ‹_›) (ihy ‹_›)
     · cases h
   · cases h
 | cond c x y ihx ihy=>
   intro K K' a h
   simp only [bo] at h
   split at h
   · split at h
     · cases h; exact .cond (t:=0) ‹_› (ihx ‹_›) (ihy ‹_›)
     · cases h
   · cases h
 | block id x ih=>
   intro K K' a h
   simp only [bo] at h
   split at h
   · cases h; exact .block (ih ‹_›)
   · cases h
 | loop x ih=>
   intro K K' a h
   cases K with
   | nil=>simp only [bo] at h; cases h
   | cons ks K=>
     simp only [bo] at h
     split at h
     · cases h; exact .loop (ih ‹_›)
     · cases h
 | scope x ih=>
   intro K K' a h
   match K,h with
   | [],h=>simp only [bo] at h; cases h
   | []::K,h=>simp only [bo,Option.some.injEq,Prod.mk.injEq] at h; rw [←h.1]; exact .bad
   | (l::ks)::K,h=>
     simp only [bo] at h
     split at h
     · split at h
       · cases h
         have hx:=ih ‹_›
         obtain ⟨rest,g1,g2⟩:=CV hx ‹_›
         exact .scope hx g1 g2
       · cases h; exact .bad
     · cases h
 | label l=>intro K K' a h; simp only [bo,Option.some.injEq,Prod.mk.injEq] at h; rw [←h.1]; exact .label
 | goto l=>intro K K' a h; simp only [bo,Option.some.injEq,Prod.mk.injEq] at h; rw [←h.1]; exact .goto
 | exit id=>intro K K' a h; simp only [bo,Option.some.injEq,Prod.mk.injEq] at h; rw [←h.1]; exact .exit
 | ret=>intro K K' a h; simp only [bo,Option.some.injEq,Prod.mk.injEq] at h; rw [←h.1]; exact .ret
 | _=>intro K K' a h; simp only [bo,Option.some.injEq,Prod.mk.injEq] at h; rw [←h.1]; exact .bad
inductive RV where
 | t (n:Nat)
 | c (a n:Nat) (agg:Bool)
def qE (P:Program):List ResultVar→Option (List RV)
 | []=>some []
 | .tmp t::rs=>(qE P rs).map (.t t::·)
 | .cell a t::rs=>match xW P t,qE P rs with
   | some (n,g),some xs=>some (.c a n g::xs)
   | _,_=>none
def St.rv (σ:St):RV→Option V
 | .t n=>match lk σ.r n with
   | some v=>if nt v=true then some v else none
   | none=>none
 | .c a n g=>match lk σ.r a with
   | some p=>match σ.fetch p n with
     | some us=>mkc g us
     | none=>none
   | none=>none
def St.rvs (σ:St):List RV→Option (List V)
 | []=>some []
 | x::xs=>match σ.rv x,σ.rvs xs with
   | some v,some vs=>some (v::vs)
   | _,_=>none
def eh:List V→V
 | [v]=>v
 | vs=>.tup vs
def Res (rs:List RV) (post:V→Prop):Ex→St→Prop:=fun e σ=>(match e with
    | .exit _=>False
    | .goto _=>False
    | _=>True)∧match σ.rvs rs with
    | some vs=>match purs σ.h vs with
      | some us=>post (eh us)
      | none=>False
    | none=>False
def ent:Nat→List V→List (Nat × V)
 | _,[]=>[]
 | k,v::vs=>(k,v)::ent (k + 1) vs
theorem q8:∀ {vs:List V} {k t:Nat} {v:V},lk (ent k vs) t=some v→k≤t∧vs[t - k]?=some v
 | [],k,t,v,h=>by simp [ent,lk] at h
 | u::us,k,t,v,h=>by
   simp only [ent,lk] at h
   split at h
   · rename_i he; subst he; cases h; exact ⟨Nat.le_refl _,by simp⟩
   · rename_i he
     obtain ⟨h1,h2⟩:=q8 h
     refine ⟨by omega,?_⟩
     rw [show t - k=(t - (k + 1)) + 1 by omega]
     simpa using h2
variable {M0:Mem} {B:Bas} {w0:World} {κ:Kap} {M:Mem} {σ:St} {a:Act} {w:World}
def Bz (a:Act):ResultVar→Sem Value
 | .tmp t=>pure (a.tmps.getD t undef)
 | .cell x t=>do loadVar t (←asAddr (a.tmps.getD x undef))
theorem fI {fn:Func} {rs:List RV} (hr:qE P fn.results.toList=some rs) (H:Rel N M0 B w0 κ M σ a w) {vs:List V} (hv:σ.rvs rs=some vs):
 ∃ cs:List Value,ac M (XX κ σ.h) vs cs∧(results fn a.tmps).run P w=.ok (if h:cs.length=1 then cs[0] else .tuple cs.toArray) w:=by
 have key:∀ (l:List ResultVar) (rs:List RV) (vs:List V),qE P l=some rs→σ.rvs rs=some vs→
  ∃ cs:List Value,ac M (XX κ σ.h) vs cs∧(l.mapM (Bz a)).run P w=.ok cs w:=by
  intro l
  induction l with
  | nil=>
    intro rs vs h1 h2
    simp only [qE,Option.some.injEq] at h1
    subst h1
    simp only [St.rvs,Option.some.injEq] at h2
    subst h2
    exact ⟨[],by simp [ac],by simp⟩
  | cons x l ih=>
    intro rs vs h1 h2
    cases x with
    | tmp t=>
      simp only [qE,Option.map_eq_some_iff] at h1
      obtain ⟨rs',h1,rfl⟩:=h1
      simp only [St.rvs] at h2
      split at h2
      · rename_i v us g1 g2
        cases h2
        obtain ⟨cs,k1,k2⟩:=ih rs' us h1 g2
        simp only [St.rv] at g1
        split at g1
        · rename_i u hu
          split at g1
          · cases g1
            obtain ⟨_,c,e1,e2⟩:=H.regs _ _ hu
            refine ⟨c::cs,by simp only [ac]; exact ⟨c,cs,rfl,e2,k1⟩,?_⟩
            have hF:(Bz a (.tmp t)).run P w=.ok c w:=by simp [Bz,e1]
            rw [List.mapM_cons,Sem.run_bind,hF,Result.andThen_ok,Sem.run_bind,k2,Result.andThen_ok,Sem.run_pure]
          · cases g1
        · cases g1
      · cases h2
    | cell t ty=>
      simp only [qE] at h1
      split at h1
      · rename_i n g xs hs hx
        cases h1
        simp only [St.rvs] at h2
        split at h2
        · rename_i v us g1 g2
          cases h2
          obtain ⟨cs,k1,k2⟩:=ih _ us hx g2
          simp only [St.rv] at g1
          split at g1
          · rename_i p hp
            split at g1
            · rename_i vs' hf
              obtain ⟨s1,s2,s3⟩:=jI hs
              obtain ⟨_,c,e1,e2⟩:=H.regs _ _ hp
              obtain ⟨b,o',ds,e,f1,f2,f3,f4⟩:=lT H e2 hf
              subst e
              rcases mB g1 f1 f2 with ⟨rfl,hk⟩ | ⟨rfl,c,hk1,hk2⟩
              · refine ⟨.agg ds.toArray::cs,by simp only [ac]; exact ⟨_,cs,rfl,hk,k1⟩,?_⟩
                have:=run_loadCells_list (P:=P) w ⟨b,o',none⟩ ds f4
                rw [f3] at this
                have hF:(Bz a (.cell t ty)).run P w=.ok (.agg ds.toArray) w:=by simp [Bz,e1,asAddr,loadVar,d5 s2,aG s1,this]
                rw [List.mapM_cons,Sem.run_bind,hF,Result.andThen_ok,Sem.run_bind,k2,Result.andThen_ok,Sem.run_pure]
              · refine ⟨c::cs,by simp only [ac]; exact ⟨c,cs,rfl,hk2,k1⟩,?_⟩
                have:=f4 0 c (by simp [hk1])
                rw [Addr.add_lit] at this
                simp at this
                have hF:(Bz a (.cell t ty)).run P w=.ok c w:=by simp [Bz,e1,asAddr,loadVar,d5 s2,this]
                rw [List.mapM_cons,Sem.run_bind,hF,Result.andThen_ok,Sem.run_bind,k2,Result.andThen_ok,Sem.run_pure]
            · cases g1
          · cases g1
        · cases h2
      · cases h1
 obtain ⟨cs,k1,k2⟩:=key _ _ _ hr hv
 refine ⟨cs,k1,?_⟩
 have e:results fn a.tmps=(do
  let vs ←fn.results.mapM (Bz a)
  pure (if h:vs.size=1 then vs[0] else .tuple vs)):=by
  unfold results
  congr 2
 rw [e,Array.mapM_eq_mapM_toList]
 simp [Sem.run_bind,k2]
theorem oV {c:Code} {Q:Exit→Act→World→Prop} {a:Act} {w:World} (h:c.wpIn (FR none) 0 P Q a w):c.wp P Q a w:=wpIn_wide.1 h
theorem FnE.of_W {f:FuncId} {fn:Func} {c:Code} {us:List V} {r:V} {x:AC} {rs:List RV} (hm:P.follows .mixedOrders=true) (hf:P.funcs[f]?=some fn) (hb:fn.body=some c)
 (hn:(fn.name == "runtime.NumGoroutine")=false) (hc:LC P fn.ntmps [] c x) (hr:qE P fn.results.toList=some rs) (hs:us.length≤fn.ntmps)
 (hW:oks us→W (Cn P) x (Res rs (·=r)) ⟨ent 0 us,[]⟩):FnE P f us r where
 call:=fun args w=>by
  unfold callFunc
  simp only [beq_eq_false_iff_ne,ne_eq] at hn
  simp [Sem.run_bind,hf,hb,hn]
 does:=fun M w cs hM hus=>by
  have hl:cs.size=us.length:=by have:=ax hus; simpa using this
  refine calls_of_wp hf hb ?_
  have H:Rel fn.ntmps M ⟨w.heap.size,fun _=>False,[],#[],w.heap.size,noJ,[],fun _ _ _ _ _ _=>False⟩ w ⟨fun _=>undef,fun _ _=>undef,fun _ _=>False,fun _=>none⟩ M ⟨ent 0 us,[]⟩ { tmps:=cs++Array.replicate (fn.ntmps - cs.size) undef,defers:=[] } w:=
   { dfr:=rfl,jst:=jm rfl,pin:=fun i hi=>by cases hi
     size:=by simp; omega
     regs:=fun t v ht=>by
      obtain ⟨_,h2⟩:=q8 ht
      simp only [Nat.sub_zero] at h2
      have hlt:t < us.length:=(List.getElem?_eq_some_iff.1 h2).1
      obtain ⟨c,h3,h4⟩:=bN hus h2
      refine ⟨by omega,c,?_,ap (fun _ _ h=>h) (fun _ _ h=>h.elim) _ _ h4⟩
      rw [Array.getElem?_append_left (by omega)]
      simpa using h3
     heap:=fun id ob h=>by simp at h
     inj:=fun i j oi oj g h=>by simp at h
     snd:=hM.snd
     sep:=fun p v _ id ob h=>by simp at h
     sub:=⟨fun _ _ h=>h,fun _ _ h=>(by cases h),fun _ _ h=>(by cases h),Nat.le_refl _,hM.gl⟩
     new:=fun _ _ h=>.inl h
     base:=rfl
     blw:=Und.refl _ _ }
  refine oV (kn hm (jn rfl) (B:=⟨w.heap.size,fun _=>False,[],#[],w.heap.size,noJ,[],fun _ _ _ _ _ _=>False⟩) hc ?_ H (hW (cC hus)))
  intro e κ M1 σ a w1 hR H1
  simp only [Res] at hR
  obtain ⟨he,hR⟩:=hR
  split at hR
  · rename_i vs hvs
    split at hR
    · rename_i ws hws
      obtain ⟨ds,k1,k2⟩:=fI hr H1 hvs
      obtain ⟨H2,hM1⟩:=H1.kill (aj vs) (dk hws)
      have k3:ac (ext M1 w1 (gk κ (aj vs))) NX ws ds:=by
       refine bn H1 hM1 (fun id hid g hg p hpb=>?_) k1 hws
       unfold ext
       rw [if_pos (cF.2 ⟨id,hid,by rw [hpb]; exact hg⟩)]
      have fin:bodyPost P fn (fun e w'=>∃ (c:Value) (M':Mem),e=.returned c∧rep M' NX r c∧Below w.heap.size w w'∧(∀ p v,M' p=some v→w'.cell? p=some v)∧
       (∀ p v,M p=some v→M' p=some v)∧∀ p v,M' p=some v→M p=some v∨w.heap.size≤p.block) .normal a w1:=by
       refine ⟨H1.dfr,_,k2,_,_,rfl,?_,⟨H1.blw.os,H1.blw.tape,H1.blw.output,H1.blw.size,fun k hk=>H1.blw.block k hk id⟩,H2.snd,H2.sub.sub,fun p v h=>(H2.new p v h).imp_right fun h=>h.elim id False.elim⟩
       subst hR
       match ws,ds,k3 with
       | [],[],k3=>simp only [eh,rep]; exact ⟨#[],rfl,by simp [ac]⟩
       | [v],[d],k3=>
         simp only [ac] at k3
         obtain ⟨_,_,h1,h2,_⟩:=k3
         cases h1
         simpa [eh] using h2
       | v::v'::vs',d::d'::ds',k3=>
         have e:(if h:(d::d'::ds').length=1 then (d::d'::ds')[0] else .tuple (d::d'::ds').toArray)=.tuple (d::d'::ds').toArray:=dif_neg (by simp)
         rw [e]
         simp only [eh,rep]
         exact ⟨_,rfl,by simpa using k3⟩
       | [],d::ds,k3=>simp [ac] at k3
       | v::vs,[],k3=>simp [ac] at k3
       | [v],d::d'::ds,k3=>simp [ac] at k3
       | v::v'::vs,[d],k3=>
         simp only [ac] at k3
         obtain ⟨c,cs',h1,_,c2,cs2,h2,_⟩:=k3
         cases h1
         cases h2
      cases e with
      | norm=>exact fin
      | ret=>exact fin
      | exit id=>exact he.elim
      | goto l=>exact he.elim
    · exact hR.elim
  · exact hR.elim
def AY (rs:List RV) (r:V):Ex→St→Prop:=fun e σ=>(match e with
    | .exit _=>False
    | .goto _=>False
    | _=>True)∧match σ.rvs rs with
    | some vs=>uZ σ.h vs=true∧(match purs σ.h vs with
      | some us=>eh us=r
      | none=>False)
    | none=>False
theorem Bc {M:Mem} {X:V→Value→Prop}:∀ {ws:List V} {ds:List Value},ac M X ws ds→rep M X (eh ws) (if h:ds.length=1 then ds[0] else .tuple ds.toArray)
 | [],[],k3=>by simp only [eh,rep]; exact ⟨#[],rfl,by simp [ac]⟩
 | [v],[d],k3=>by
   simp only [ac] at k3
   obtain ⟨_,_,h1,h2,_⟩:=k3
   cases h1
   simpa [eh] using h2
 | v::v'::vs',d::d'::ds',k3=>by
   have e:(if h:(d::d'::ds').length=1 then (d::d'::ds')[0] else .tuple (d::d'::ds').toArray)=.tuple (d::d'::ds').toArray:=dif_neg (by simp)
   rw [e]
   simp only [eh,rep]
   exact ⟨_,rfl,by simpa using k3⟩
 | [],d::ds,k3=>by simp [ac] at k3
 | v::vs,[],k3=>by simp [ac] at k3
 | [v],d::d'::ds,k3=>by simp [ac] at k3
 | v::v'::vs,[d],k3=>by
   simp only [ac] at k3
   obtain ⟨c,cs',h1,_,c2,cs2,h2,_⟩:=k3
   cases h1
   cases h2
theorem FnN.of_W {f:FuncId} {fn:Func} {c:Code} {us:List V} {r:V} {x:AC} {rs:List RV} (hm:P.follows .mixedOrders=true) (hf:P.funcs[f]?=some fn) (hb:fn.body=some c)
 (hn:(fn.name == "runtime.NumGoroutine")=false) (hc:LC P fn.ntmps [] c x) (hr:qE P fn.results.toList=some rs) (hs:us.length≤fn.ntmps)
 (hW:oks us→W (Cn P) x (AY rs r) ⟨ent 0 us,[]⟩):FnN P f us r:=by
 intro M w cs hM hus o a Nx Q hN
 have hcall:(callFunc f cs).run P w=.ok (.enter f cs) w:=by
  unfold callFunc
  simp only [beq_eq_false_iff_ne,ne_eq] at hn
  simp [Sem.run_bind,hf,hb,hn]
 have hl:cs.size=us.length:=by have:=ax hus; simpa using this
 rw [hcall,Oper.upon_enter]
 have key:Calls P f cs w fun e w'=>∃ (c:Value) (M':Mem),e=.returned c∧rep (n9 w M') NX r c∧Below w.heap.size w w'∧∀ p v,M' p=some v→w'.cell? p=some v:=by
  refine calls_of_wp hf hb ?_
  have H:Rel fn.ntmps M ⟨w.heap.size,fun _=>False,[],#[],w.heap.size,noJ,[],fun _ _ _ _ _ _=>False⟩ w ⟨fun _=>undef,fun _ _=>undef,fun _ _=>False,fun _=>none⟩ M ⟨ent 0 us,[]⟩ { tmps:=cs++Array.replicate (fn.ntmps - cs.size) undef,defers:=[] } w:=
   { dfr:=rfl,jst:=jm rfl,pin:=fun i hi=>by cases hi
     size:=by simp; omega
     regs:=fun t v ht=>by
      obtain ⟨_,h2⟩:=q8 ht
      simp only [Nat.sub_zero] at h2
      have hlt:t < us.length:=(List.getElem?_eq_some_iff.1 h2).1
      obtain ⟨c,h3,h4⟩:=bN hus h2
      refine ⟨by omega,c,?_,ap (fun _ _ h=>h) (fun _ _ h=>h.elim) _ _ h4⟩
      rw [Array.getElem?_append_left (by omega)]
      simpa using h3
     heap:=fun id ob h=>by simp at h
     inj:=fun i j oi oj g h=>by simp at h
     snd:=hM.snd
     sep:=fun p v _ id ob h=>by simp at h
     sub:=⟨fun _ _ h=>h,fun _ _ h=>(by cases h),fun _ _ h=>(by cases h),Nat.le_refl _,hM.gl⟩
     new:=fun _ _ h=>.inl h
     base:=rfl
     blw:=Und.refl _ _ }
  refine oV (kn hm (jn rfl) (B:=⟨w.heap.size,fun _=>False,[],#[],w.heap.size,noJ,[],fun _ _ _ _ _ _=>False⟩) hc ?_ H (hW (cC hus)))
  intro e κ M1 σ a w1 hR H1
  simp only [AY] at hR
  obtain ⟨he,hR⟩:=hR
  split at hR
  · rename_i vs hvs
    obtain ⟨hfr,hR⟩:=hR
    split at hR
    · rename_i ws hws
      obtain ⟨ds,k1,k2⟩:=fI hr H1 hvs
      obtain ⟨H2,hM1⟩:=H1.kill (aj vs) (dk hws)
      have k3:ac (n9 w (ext M1 w1 (gk κ (aj vs)))) NX ws ds:=by
       refine p8 H1 (fun p v hp=>by unfold n9; rw [if_pos (H1.sub.fmN p v hp)]; exact hM1 p v (H1.sub.fmS p v hp)) (fun id hid g hg p hpb=>?_) hfr k1 hws
       obtain ⟨ob,hob⟩:=dk hws id hid
       have hgw:w.heap.size≤g:=by
        rcases (H1.blk_lt hob hg).1 with h | h
        · exact h
        · exact h.elim
       unfold n9
       rw [if_pos (by omega)]
       unfold ext
       rw [if_pos (cF.2 ⟨id,hid,by rw [hpb]; exact hg⟩)]
      have fin:bodyPost P fn (fun e w'=>∃ (c:Value) (M':Mem),e=.returned c∧rep (n9 w M') NX r c∧Below w.heap.size w w'∧∀ p v,M' p=some v→w'.cell? p=some v) .normal a w1:=by
       refine ⟨H1.dfr,_,k2,_,_,rfl,?_,⟨H1.blw.os,H1.blw.tape,H1.blw.output,H1.blw.size,fun k hk=>H1.blw.block k hk id⟩,H2.snd⟩
       subst hR
       exact Bc k3
      cases e with
      | norm=>exact fin
      | ret=>exact fin
      | exit id=>exact he.elim
      | goto l=>exact he.elim
    · exact hR.elim
  · exact hR.elim
 refine key.mono ?_
 rintro e w' ⟨c,M',rfl,h1,h2,h3⟩
 exact hN c M' w' h1 h2 h3
mutual
def jk:V→V
 | .seq sz l=>if l.isEmpty=true then .seq sz l else .junk
 | .strct cs=>.strct (jks cs)
 | .tup cs=>.tup (jks cs)
 | .sptr _ _=>.junk
 | v=>v
def jks:List V→List V
 | []=>[]
 | v::vs=>jk v::jks vs
end
def aq (P:Program) (fn:Func) (K:List (List Nat)) (n:Nat):Option (AC × List RV):=
 match fn.body with
 | some c=>match bo P fn.ntmps [] [] c K,qE P fn.results.toList with
   | some (x,[]),some rs=>if (fn.name == "runtime.NumGoroutine")=false∧n≤fn.ntmps then some (x,rs) else none
   | _,_=>none
 | none=>none
theorem FnE.of_image {f:FuncId} {fn:Func} {us:List V} {r:V} {x:AC} {K:List (List Nat)} {rs:List RV} {n:Nat} (hm:P.follows .mixedOrders=true) (hf:P.funcs[f]?=some fn)
 (hi:aq P fn K n=some (x,rs)) (hn:us.length=n) (hW:oks us→W (Cn P) x (Res rs (·=r)) ⟨ent 0 us,[]⟩):FnE P f us r:=by
 unfold aq at hi
 split at hi
 · split at hi
   · split at hi
     · rename_i hc
       cases hi
       exact FnE.of_W hm hf ‹_› hc.1 (cY ‹_›) ‹_› (by rw [hn]; exact hc.2) hW
     · cases hi
   · cases hi
 · cases hi
theorem Fn.of_image {f:FuncId} {fn:Func} {us:List V} {r:V} {x:AC} {K:List (List Nat)} {rs:List RV} {n:Nat} (hm:P.follows .mixedOrders=true) (hf:P.funcs[f]?=some fn)
 (hi:aq P fn K n=some (x,rs)) (hn:us.length=n) (hW:oks us→W (Cn P) x (Res rs (·=r)) ⟨ent 0 us,[]⟩):Fn P f us r:=(FnE.of_image hm hf hi hn hW).fn
theorem FnN.of_image {f:FuncId} {fn:Func} {us:List V} {r:V} {x:AC} {K:List (List Nat)} {rs:List RV} {n:Nat} (hm:P.follows .mixedOrders=true) (hf:P.funcs[f]?=some fn)
 (hi:aq P fn K n=some (x,rs)) (hn:us.length=n) (hW:oks us→W (Cn P) x (AY rs r) ⟨ent 0 us,[]⟩):FnN P f us r:=by
 unfold aq at hi
 split at hi
 · split at hi
   · split at hi
     · rename_i hc
       cases hi
       exact FnN.of_W hm hf ‹_› hc.1 (cY ‹_›) ‹_› (by rw [hn]; exact hc.2) hW
     · cases hi
   · cases hi
 · cases hi
def pz:List (Nat × V)→List V
 | []=>[]
 | (_,v)::r=>v::pz r
def yj (m:List Nat) (r:List (Nat × V)) (us:List V):List Nat→Prop
 | []=>True
 | i::is=>(match lk r i,us[i]? with
   | some v,some u=>ren m v=u
   | _,_=>False)∧yj m r us is
def Bx (σ:St) (ps:List Nat) (us:List V) (r:V) (H':List (Option Ob)) (vs:List V) (m:List Nat):Prop:=
 yj m σ.r us ps∧eh (di m vs)=r∧eD σ.h m m=H'
def AZ (rs:List RV) (ps:List Nat) (us:List V) (r:V) (H':List (Option Ob)):Ex→St→Prop:=fun e σ=>(match e with
    | .exit _=>False
    | .goto _=>False
    | _=>True)∧match σ.rvs rs with
    | some vs=>Bx σ ps us r H' vs (ct σ.h (pz (pk σ.r ps)) vs).2
    | none=>False
theorem yi {m:List Nat} {r:List (Nat × V)} {us:List V}:∀ {is:List Nat},yj m r us is→∀ i,i∈is→∃ v u,lk r i=some v∧us[i]?=some u∧ren m v=u
 | [],_,i,hi=>by cases hi
 | j::is,h,i,hi=>by
   simp only [yj] at h
   rcases List.mem_cons.1 hi with rfl | hi
   · have h1:=h.1
     split at h1
     · exact ⟨_,_,by assumption,by assumption,h1⟩
     · exact h1.elim
   · exact yi h.2 i hi
def Rs (rs:List RV) (ps:List Nat) (us:List V) (Z:V→List (Option Ob)→Prop):Ex→St→Prop:=fun e σ=>∃ r H',Z r H'∧AZ rs ps us r H' e σ
theorem KI {rs:List RV} {ps:List Nat} {us:List V} {r:V} {H':List (Option Ob)}:Rs rs ps us (fun r1 H1=>r1=r∧H1=H')=AZ rs ps us r H':=by
 funext e σ
 exact propext ⟨fun ⟨_,_,⟨e1,e2⟩,h⟩=>by subst e1 e2; exact h,fun h=>⟨_,_,⟨rfl,rfl⟩,h⟩⟩
theorem FnX.of_W {f:FuncId} {fn:Func} {c:Code} {ps:List Nat} {us:List V} {H:List (Option Ob)} {Z:V→List (Option Ob)→Prop} {x:AC} {rs:List RV} (hm:P.follows .mixedOrders=true) (hf:P.funcs[f]?=some fn) (hb:fn.body=some c)
 (hn:(fn.name == "runtime.NumGoroutine")=false) (hc:LC P fn.ntmps ps c x) (hr:qE P fn.results.toList=some rs) (hs:us.length≤fn.ntmps) (hps:∀ i∈ps,i < us.length)
 (hW:oks us→okH H→W (Cn P) x (Rs rs ps us Z) ⟨ent 0 us,H⟩):FnX P f ps us H Z:=by
 intro M w κ cs J hJC hp hus o a Nx Q hN
 have hcall:(callFunc f cs).run P w=.ok (.enter f cs) w:=by
  unfold callFunc
  simp only [beq_eq_false_iff_ne,ne_eq] at hn
  simp [Sem.run_bind,hf,hb,hn]
 have hl:cs.size=us.length:=by have:=ax hus; simpa using this
 rw [hcall,Oper.upon_enter]
 have key:Calls P f cs w fun e w'=>∃ (r:V) (H':List (Option Ob)) (c:Value) (M':Mem) (κ':Kap),Z r H'∧e=.returned c∧rep M' (XX κ' H') r c∧Und (cP κ H w ps cs J) w w'∧Heap κ' M' (cP κ H w ps cs J) w' H'∧
  (∀ p v,M p=some v→M' p=some v)∧(∀ p v,M' p=some v→M p=some v∨(cP κ H w ps cs J).own p.block)∧
  (∀ i,i∈ps→∀ u d,us[i]?=some u→cs[i]?=some d→rep M' (XX κ' H') u d):=by
  refine calls_of_wp hf hb ?_
  have H0:Rel fn.ntmps M (cP κ H w ps cs J) w κ M ⟨ent 0 us,H⟩ { tmps:=cs++Array.replicate (fn.ntmps - cs.size) undef,defers:=[] } w:=
   { dfr:=rfl
     jst:=hp.jst
     pin:=fun i hi=>by
      have hi:i∈ps:=hi
      have:=hps i hi
      show (cs++Array.replicate (fn.ntmps - cs.size) undef)[i]?=cs[i]?
      rw [Array.getElem?_append_left (by omega)]
     size:=by simp; omega
     regs:=fun t v ht=>by
      obtain ⟨_,h2⟩:=q8 ht
      simp only [Nat.sub_zero] at h2
      have hlt:t < us.length:=(List.getElem?_eq_some_iff.1 h2).1
      obtain ⟨c,h3,h4⟩:=bN hus h2
      refine ⟨by omega,c,?_,h4⟩
      rw [Array.getElem?_append_left (by omega)]
      simpa using h3
     heap:=hp.heap
     inj:=hp.inj
     snd:=hp.snd
     sep:=hp.sep
     sub:=⟨fun _ _ h=>h,hp.fmS,fun _ _ _=>Nat.zero_le _,Nat.zero_le _,hp.gl⟩
     new:=fun _ _ h=>.inl h
     base:=rfl
     blw:=Und.refl _ _ }
  refine oV (kn hm hJC (B:=cP κ H w ps cs J) hc ?_ H0 (hW (cC hus) (FB hp.heap)))
  intro e κ1 M1 σ a w1 hR H1
  obtain ⟨r,H',hZ,hR⟩:=hR
  simp only [AZ] at hR
  obtain ⟨he,hR⟩:=hR
  split at hR
  · rename_i vs hvs
    obtain ⟨ds,k1,k2⟩:=fI hr H1 hvs
    obtain ⟨hmn,_,_,hpf⟩:=yy (h:=σ.h) (pvs:=pz (pk σ.r ps)) (vs:=vs)
    generalize (ct σ.h (pz (pk σ.r ps)) vs).2=m at *
    obtain ⟨hR1,hR2,hR3⟩:=hR
    have H2:=H1.ren hmn hpf [] (fun t v h=>by simp [lk] at h)
    have k3:=fL (rD (M:=M1) (κ:=κ1) (h:=σ.h) hmn) k1
    simp only [vP] at H2
    rw [hR3] at H2 k3
    have hpin:∀ i,i∈ps→∀ u d,us[i]?=some u→cs[i]?=some d→rep M1 (XX (κ1.ren m) H') u d:=by
     intro i hi u d hu hd
     obtain ⟨v,u',e1,e2,e3⟩:=yi hR1 i hi
     rw [hu] at e2
     cases e2
     obtain ⟨_,c,g2,g3⟩:=H1.regs i v e1
     rw [H1.pin i hi] at g2
     have g2:cs[i]?=some c:=g2
     rw [hd] at g2
     cases g2
     rw [←e3,←hR3]
     exact tr (rD hmn) g3
    generalize hk':κ1.ren m=κ' at *
    have fin:bodyPost P fn (fun e w'=>∃ (r:V) (H':List (Option Ob)) (c:Value) (M':Mem) (κ':Kap),Z r H'∧e=.returned c∧rep M' (XX κ' H') r c∧Und (cP κ H w ps cs J) w w'∧Heap κ' M' (cP κ H w ps cs J) w' H'∧
     (∀ p v,M p=some v→M' p=some v)∧(∀ p v,M' p=some v→M p=some v∨(cP κ H w ps cs J).own p.block)∧
     (∀ i,i∈ps→∀ u d,us[i]?=some u→cs[i]?=some d→rep M' (XX κ' H') u d)) .normal a w1:=by
     refine ⟨H1.dfr,_,k2,r,H',_,M1,κ',hZ,rfl,?_,H1.blw,⟨H2.heap,H2.inj,H2.snd,H2.sep,H2.sub.fmS,H2.sub.gl.mono H2.sub.sub,H2.jst⟩,H1.sub.sub,H1.new,hpin⟩
     subst hR2
     generalize di m vs=ws at *
     match ws,ds,k3 with
     | [],[],k3=>simp only [eh,rep]; exact ⟨#[],rfl,by simp [ac]⟩
     | [v],[d],k3=>
       simp only [ac] at k3
       obtain ⟨_,_,h1,h2,_⟩:=k3
       cases h1
       simpa [eh] using h2
     | v::v'::vs',d::d'::ds',k3=>
       have e:(if h:(d::d'::ds').length=1 then (d::d'::ds')[0] else .tuple (d::d'::ds').toArray)=.tuple (d::d'::ds').toArray:=dif_neg (by simp)
       rw [e]
       simp only [eh,rep]
       exact ⟨_,rfl,by simpa using k3⟩
     | [],d::ds,k3=>simp [ac] at k3
     | v::vs,[],k3=>simp [ac] at k3
     | [v],d::d'::ds,k3=>simp [ac] at k3
     | v::v'::vs,[d],k3=>
       simp only [ac] at k3
       obtain ⟨c,cs',h1,_,c2,cs2,h2,_⟩:=k3
       cases h1
       cases h2
    cases e with
    | norm=>exact fin
    | ret=>exact fin
    | exit id=>exact he.elim
    | goto l=>exact he.elim
  · exact hR.elim
 refine key.mono ?_
 rintro e w' ⟨r,H',c,M',κ',hZ,rfl,h1,h2,h3,h4,h5,h6⟩
 exact hN r H' c M' w' κ' hZ h1 h2 h3 h4 h5 h6
def av (P:Program) (fn:Func) (ps E:List Nat) (K:List (List Nat)) (n:Nat):Option (AC × List RV):=
 match fn.body with
 | some c=>match bo P fn.ntmps ps E c K,qE P fn.results.toList with
   | some (x,[]),some rs=>if (fn.name == "runtime.NumGoroutine")=false∧n≤fn.ntmps∧ps.all (fun i=>decide (i < n))=true then some (x,rs) else none
   | _,_=>none
 | none=>none
theorem FnX.of_image {f:FuncId} {fn:Func} {ps E:List Nat} {us:List V} {H:List (Option Ob)} {Z:V→List (Option Ob)→Prop} {x:AC} {K:List (List Nat)} {rs:List RV} {n:Nat} (hm:P.follows .mixedOrders=true) (hf:P.funcs[f]?=some fn)
 (hi:av P fn ps E K n=some (x,rs)) (hn:us.length=n) (hW:oks us→okH H→W (Cn P) x (Rs rs ps us Z) ⟨ent 0 us,H⟩):FnX P f ps us H Z:=by
 unfold av at hi
 split at hi
 · split at hi
   · split at hi
     · rename_i hc
       cases hi
       exact FnX.of_W hm hf ‹_› hc.1 (cY ‹_›) ‹_› (by rw [hn]; exact hc.2.1) (fun i hi=>by have:=List.all_eq_true.1 hc.2.2 i hi; simp at this; omega) hW
     · cases hi
   · cases hi
 · cases hi
theorem FnH.of_image {f:FuncId} {fn:Func} {ps E:List Nat} {us:List V} {H H':List (Option Ob)} {r:V} {x:AC} {K:List (List Nat)} {rs:List RV} {n:Nat} (hm:P.follows .mixedOrders=true) (hf:P.funcs[f]?=some fn)
 (hi:av P fn ps E K n=some (x,rs)) (hn:us.length=n) (hW:oks us→okH H→W (Cn P) x (AZ rs ps us r H') ⟨ent 0 us,H⟩):FnH P f ps us H r H':=
 FnX.h (FnX.of_image hm hf hi hn fun h1 h2=>by rw [KI]; exact hW h1 h2)
theorem Fn.of_imageE {f:FuncId} {fn:Func} {E:List Nat} {us:List V} {r:V} {x:AC} {K:List (List Nat)} {rs:List RV} {n:Nat} (hm:P.follows .mixedOrders=true) (hf:P.funcs[f]?=some fn)
 (hi:av P fn [] E K n=some (x,rs)) (hn:us.length=n) (hW:oks us→W (Cn P) x (Res rs (·=r)) ⟨ent 0 us,[]⟩):Fn P f us r:=by
 unfold av at hi
 split at hi
 · split at hi
   · split at hi
     · rename_i hc
       cases hi
       exact (FnE.of_W hm hf ‹_› hc.1 (cY ‹_›) ‹_› (by rw [hn]; exact hc.2.1) hW).fn
     · cases hi
   · cases hi
 · cases hi
end
end Go.Abs
end
section
namespace Go.Abs
def oM {α:Type} (x:Option α) (k:α→Prop):Prop:=match x with
 | some v=>k v
 | none=>False
def oN {α:Type} (x:Option α) (k:α→Prop) (e:Prop):Prop:=match x with
 | some v=>k v
 | none=>e
theorem ME {α:Type} {v:α} {k:α→Prop} {e:Prop}:oN (some v) k e=k v:=propext Iff.rfl
theorem MF {α:Type} {k:α→Prop} {e:Prop}:oN none k e=e:=propext Iff.rfl
def BrK (t:Bool) (A B:St→Prop) (σ:St):Prop:=Br t (A σ) (B σ)
def rqK (p:Prop) (K:St→Prop) (σ:St):Prop:=p∧K σ
def cM (x:Option V) (A B:St→Prop) (σ:St):Prop:=match x with
 | some (.bool t)=>Br t (A σ) (B σ)
 | _=>False
def gM (x:Option V) (b:Bool) (A B:St→Prop) (σ:St):Prop:=match x with
 | some (.bool y)=>if b=true then Br y (A σ) (B σ) else Br y (B σ) (A σ)
 | some (.tup [])=>B σ
 | _=>False
def Nk (Q:Ex→St→Prop) (ks:List Nat) (σ:St):Prop:=Q .norm { σ with r:=pk σ.r ks }
def skK (d:Option Nat) (K:St→Prop) (σ:St):Prop:=K (σ.put d (.tup []))
def dN (σ:St) (d:Option Nat) (K:St→Prop) (v:V):Prop:=K (σ.put d v)
theorem BrK.mk {t:Bool} {A B:St→Prop} {σ:St} (h:t=true→A σ) (h':t=false→B σ):BrK t A B σ:=⟨h,h'⟩
theorem Dy {A B:St→Prop} {σ:St}:BrK true A B σ=A σ:=by simp [BrK,Br]
theorem y7 {A B:St→Prop} {σ:St}:BrK false A B σ=B σ:=by simp [BrK,Br]
theorem BrKd.mk {p:Prop} [Decidable p] {A B:St→Prop} {σ:St} (h:p→A σ) (h':¬p→B σ):BrK (decide p) A B σ:=⟨fun e=>h (of_decide_eq_true e),fun e=>h' (of_decide_eq_false e)⟩
theorem BrK_t {p:Prop} [Decidable p] {A B:St→Prop} {σ:St} (h:p):BrK (decide p) A B σ=A σ:=by rw [decide_eq_true h]; exact Dy
theorem BrK_f {p:Prop} [Decidable p] {A B:St→Prop} {σ:St} (h:¬p):BrK (decide p) A B σ=B σ:=by rw [decide_eq_false h]; exact y7
theorem BrK_n {b:Bool} {A B:St→Prop} {σ:St}:BrK (!b) A B σ=BrK b B A σ:=by cases b<;>simp [BrK,Br]
theorem rqK_t {p:Prop} {K:St→Prop} {σ:St} (h:p):rqK p K σ=K σ:=by simp [rqK,h]
theorem IR {K:St→Prop} {σ:St}:rqK True K σ=K σ:=by simp [rqK]
theorem MG {α:Type} {v:α} {k:α→Prop}:oM (some v) k=k v:=propext Iff.rfl
theorem MH {α:Type} {k:α→Prop}:oM none k=False:=propext Iff.rfl
theorem Np {t:Bool} {A B:St→Prop} {σ:St}:cM (some (.bool t)) A B σ=BrK t A B σ:=propext Iff.rfl
theorem M7 {y:Bool} {A B:St→Prop} {σ:St}:gM (some (.bool y)) true A B σ=BrK y A B σ:=propext Iff.rfl
theorem JM {y:Bool} {A B:St→Prop} {σ:St}:gM (some (.bool y)) false A B σ=BrK y B A σ:=propext Iff.rfl
theorem Qe {b:Bool} {A B:St→Prop} {σ:St}:gM (some (.tup [])) b A B σ=B σ:=by cases b<;>rfl
section
variable {Φ:Ctr} {Q:Ex→St→Prop} {σ:St} {K:St→Prop} {d:Option Nat}
theorem Ka {ks:List Nat}:Nk Q ks σ=Q .norm { σ with r:=pk σ.r ks }:=propext Iff.rfl
theorem Ms:skK d K σ=K (σ.put d (.tup [])):=propext Iff.rfl
theorem I4 {v:V}:dN σ d K v=K (σ.put d v):=propext Iff.rfl
theorem Rn {ops ks}:W Φ (.reg ops ks) Q σ=qM Φ ops (Nk Q ks) σ:=propext Iff.rfl
theorem NG {ops ks}:W Φ (.regD ops ks) Q σ=oX Φ ops (Nk Q ks) σ:=propext Iff.rfl
theorem NF {alts ks}:W Φ (.regE alts ks) Q σ=DE Φ alts (Nk Q ks) σ:=propext Iff.rfl
theorem NI {c:AO} {a b:AC}:W Φ (.cond c a b) Q σ=cM (σ.ev c) (W Φ a Q) (W Φ b Q) σ:=propext Iff.rfl
theorem Rm {a b:AC}:W Φ (.seq a b) Q σ=W Φ a (Ex.then (W Φ b Q) Q) σ:=propext Iff.rfl
theorem Ii:qM Φ [] K σ=K σ:=propext Iff.rfl
theorem FT {o:AOp} {os:List AOp}:qM Φ (o::os) K σ=wop Φ o (qM Φ os K) σ:=propext Iff.rfl
theorem wop_n {d:Option Nat} {a:Act'}:wop Φ ⟨d,a,none⟩ K σ=ae Φ d a K σ:=propext Iff.rfl
theorem Ik {d:Option Nat} {a:Act'} {t:Nat} {b:Bool}:wop Φ ⟨d,a,some (t,b)⟩ K σ=gM (lk σ.r t) b (ae Φ d a K) (skK d K) σ:=by
 simp only [wop,gM]
 split<;>rename_i heq<;>simp only [heq]<;>rfl
theorem FU:oX Φ [] K σ=K σ:=propext Iff.rfl
theorem DB {o:AOp} {os:List AOp}:oX Φ (o::os) K σ=aF Φ o (oX Φ os K) σ:=propext Iff.rfl
theorem OY {d:Option Nat} {a:Act'}:aF Φ ⟨d,a,none⟩ K σ=af Φ d a K σ:=propext Iff.rfl
theorem DC {d:Option Nat} {a:Act'} {t:Nat} {b:Bool}:aF Φ ⟨d,a,some (t,b)⟩ K σ=gM (lk σ.r t) b (af Φ d a K) (skK d K) σ:=by
 simp only [aF,gM]
 split<;>rename_i heq<;>simp only [heq]<;>rfl
theorem FQ:gU Φ .nil K σ=K σ:=propext Iff.rfl
theorem HI {x:AOp} {t:OT}:gU Φ (.op x t) K σ=aF Φ x (gU Φ t K) σ:=propext Iff.rfl
def O0 (Φ:Ctr) (a b:OT) (K:St→Prop) (σ:St):Prop:=gU Φ a K σ∧gU Φ b K σ
theorem DA {a b:OT}:gU Φ (.both a b) K σ=O0 Φ a b K σ:=propext Iff.rfl
def nrmK (Q:Ex→St→Prop) (ks:List Nat) (σ:St):Prop:=Q .norm (σ.nrm ks)
theorem Jh {ks:List Nat}:nrmK Q ks σ=Q .norm (σ.nrm ks):=propext Iff.rfl
theorem NE {t ks}:W Φ (.regF t ks) Q σ=gU Φ t (nrmK Q ks) σ:=propext Iff.rfl
theorem Ip:DE Φ [] K σ=True:=propext Iff.rfl
def wallK (Φ:Ctr) (o:List AOp) (os:List (List AOp)) (K:St→Prop) (σ:St):Prop:=qM Φ o K σ∧DE Φ os K σ
theorem FY {o:List AOp} {os:List (List AOp)}:DE Φ (o::os) K σ=wallK Φ o os K σ:=propext Iff.rfl
def N0:Act'→Bool
 | .s2b _=>false
 | .lit _ _ _=>false
 | .ltr _ _ _=>false
 | .alc _=>false
 | .box _=>false
 | .st _ _ _=>false
 | .app _ _ _ _ _=>false
 | .mks _ _ _ _ _=>false
 | .mk0 _ _ _ _=>false
 | .mkm _ _ _ _ _=>false
 | .call _ _=>false
 | .callv _ _=>false
 | .callH _ _=>false
 | .mkp _=>false
 | .mup _ _ _ _=>false
 | .inv _ _ _=>false
 | .ivp _ _ _=>false
 | .trc _ _ _=>false
 | .alq _=>false
 | .bxq _=>false
 | .cvb _=>false
 | .apz _ _ _ _=>false
 | .sbq _=>false
 | .aps _ _ _=>false
 | .apb _ _ _=>false
 | .alb _ _ _=>false
 | .usd _=>false
 | .ust _ _ _=>false
 | .del _ _ _=>false
 | .mkq _ _ _ _ _=>false
 | .yld _ _=>false
 | .rgs _=>false
 | .nxs _=>false
 | _=>true
theorem co {a:Act'} (h:N0 a=true):ae Φ d a K σ=oM (σ.val a) (dN σ d K):=by
 cases a<;>first | (exfalso; revert h; simp only [N0]; decide) | skip
 all_goals
  simp only [ae,oM]
  split<;>rename_i heq<;>simp only [heq]<;>rfl
theorem a_mov {x}:ae Φ d (.mov x) K σ=oM (σ.val (.mov x)) (dN σ d K):=co rfl
theorem QP {x}:af Φ d (.mov x) K σ=ae Φ d (.mov x) K σ:=propext Iff.rfl
theorem Qx {x y z}:ae Φ d (.pick x y z) K σ=oM (σ.val (.pick x y z)) (dN σ d K):=co rfl
theorem NA {x y z}:af Φ d (.pick x y z) K σ=ae Φ d (.pick x y z) K σ:=propext Iff.rfl
theorem a_fld {x y z w}:ae Φ d (.fld x y z w) K σ=oM (σ.val (.fld x y z w)) (dN σ d K):=co rfl
theorem Q3 {x y z w}:af Φ d (.fld x y z w) K σ=ae Φ d (.fld x y z w) K σ:=propext Iff.rfl
theorem a_fa {x y}:ae Φ d (.fa x y) K σ=oM (σ.val (.fa x y)) (dN σ d K):=co rfl
theorem aD_fa {x y}:af Φ d (.fa x y) K σ=ae Φ d (.fa x y) K σ:=propext Iff.rfl
theorem a_ia {x y z}:ae Φ d (.ia x y z) K σ=oM (σ.val (.ia x y z)) (dN σ d K):=co rfl
theorem aD_ia {x y z}:af Φ d (.ia x y z) K σ=ae Φ d (.ia x y z) K σ:=propext Iff.rfl
theorem a_iaa {x y z w}:ae Φ d (.iaa x y z w) K σ=oM (σ.val (.iaa x y z w)) (dN σ d K):=co rfl
theorem Q2 {x y z w}:af Φ d (.iaa x y z w) K σ=ae Φ d (.iaa x y z w) K σ:=propext Iff.rfl
theorem a_ld {x y z}:ae Φ d (.ld x y z) K σ=oM (σ.val (.ld x y z)) (dN σ d K):=co rfl
theorem aD_ld {x y z}:af Φ d (.ld x y z) K σ=ae Φ d (.ld x y z) K σ:=propext Iff.rfl
theorem a_ixs {x y}:ae Φ d (.ixs x y) K σ=oM (σ.val (.ixs x y)) (dN σ d K):=co rfl
theorem QZ {x y}:af Φ d (.ixs x y) K σ=ae Φ d (.ixs x y) K σ:=propext Iff.rfl
theorem a_ixa {x y z w u}:ae Φ d (.ixa x y z w u) K σ=oM (σ.val (.ixa x y z w u)) (dN σ d K):=co rfl
theorem Q0 {x y z w u}:af Φ d (.ixa x y z w u) K σ=ae Φ d (.ixa x y z w u) K σ:=propext Iff.rfl
theorem a_bin {x y z}:ae Φ d (.bin x y z) K σ=oM (σ.val (.bin x y z)) (dN σ d K):=co rfl
theorem Rb {x y z}:af Φ d (.bin x y z) K σ=ae Φ d (.bin x y z) K σ:=propext Iff.rfl
theorem a_un {x y}:ae Φ d (.un x y) K σ=oM (σ.val (.un x y)) (dN σ d K):=co rfl
theorem aD_un {x y}:af Φ d (.un x y) K σ=ae Φ d (.un x y) K σ:=propext Iff.rfl
theorem a_cii {x y}:ae Φ d (.cii x y) K σ=oM (σ.val (.cii x y)) (dN σ d K):=co rfl
theorem Q7 {x y}:af Φ d (.cii x y) K σ=ae Φ d (.cii x y) K σ:=propext Iff.rfl
theorem a_r2s {x}:ae Φ d (.r2s x) K σ=oM (σ.val (.r2s x)) (dN σ d K):=co rfl
theorem QK {x}:af Φ d (.r2s x) K σ=ae Φ d (.r2s x) K σ:=propext Iff.rfl
theorem a_b2s {x}:ae Φ d (.b2s x) K σ=oM (σ.val (.b2s x)) (dN σ d K):=co rfl
theorem Rd {x}:af Φ d (.b2s x) K σ=ae Φ d (.b2s x) K σ:=propext Iff.rfl
theorem a_sls {x y z}:ae Φ d (.sls x y z) K σ=oM (σ.val (.sls x y z)) (dN σ d K):=co rfl
theorem QF {x y z}:af Φ d (.sls x y z) K σ=ae Φ d (.sls x y z) K σ:=propext Iff.rfl
theorem a_slq {x y z w}:ae Φ d (.slq x y z w) K σ=oM (σ.val (.slq x y z w)) (dN σ d K):=co rfl
theorem QG {x y z w}:af Φ d (.slq x y z w) K σ=ae Φ d (.slq x y z w) K σ:=propext Iff.rfl
theorem Qy {x}:ae Φ d (.lens x) K σ=oM (σ.val (.lens x)) (dN σ d K):=co rfl
theorem NB {x}:af Φ d (.lens x) K σ=ae Φ d (.lens x) K σ:=propext Iff.rfl
theorem Qz {x}:ae Φ d (.lenq x) K σ=oM (σ.val (.lenq x)) (dN σ d K):=co rfl
theorem NC {x}:af Φ d (.lenq x) K σ=ae Φ d (.lenq x) K σ:=propext Iff.rfl
theorem a_beq {x y z}:ae Φ d (.beq x y z) K σ=oM (σ.val (.beq x y z)) (dN σ d K):=co rfl
theorem Rc {x y z}:af Φ d (.beq x y z) K σ=ae Φ d (.beq x y z) K σ:=propext Iff.rfl
theorem a_ext {x y}:ae Φ d (.ext x y) K σ=oM (σ.val (.ext x y)) (dN σ d K):=co rfl
theorem Q4 {x y}:af Φ d (.ext x y) K σ=ae Φ d (.ext x y) K σ:=propext Iff.rfl
theorem a_bld {x y}:ae Φ d (.bld x y) K σ=oM (σ.val (.bld x y)) (dN σ d K):=co rfl
theorem Ra {x y}:af Φ d (.bld x y) K σ=ae Φ d (.bld x y) K σ:=propext Iff.rfl
theorem a_mkf {x y z}:ae Φ d (.mkf x y z) K σ=oM (σ.val (.mkf x y z)) (dN σ d K):=co rfl
theorem QV {x y z}:af Φ d (.mkf x y z) K σ=ae Φ d (.mkf x y z) K σ:=propext Iff.rfl
theorem a_nlc {x}:ae Φ d (.nlc x) K σ=oM (σ.val (.nlc x)) (dN σ d K):=co rfl
theorem QN {x}:af Φ d (.nlc x) K σ=ae Φ d (.nlc x) K σ:=propext Iff.rfl
theorem a_tya {x y z w}:ae Φ d (.tya x y z w) K σ=oM (σ.val (.tya x y z w)) (dN σ d K):=co rfl
theorem QE {x y z w}:af Φ d (.tya x y z w) K σ=ae Φ d (.tya x y z w) K σ:=propext Iff.rfl
theorem a_mki {x y}:ae Φ d (.mki x y) K σ=oM (σ.val (.mki x y)) (dN σ d K):=co rfl
theorem QU {x y}:af Φ d (.mki x y) K σ=ae Φ d (.mki x y) K σ:=propext Iff.rfl
theorem a_aeq {x y z w}:ae Φ d (.aeq x y z w) K σ=oM (σ.val (.aeq x y z w)) (dN σ d K):=co rfl
theorem Rk {x y z w}:af Φ d (.aeq x y z w) K σ=ae Φ d (.aeq x y z w) K σ:=propext Iff.rfl
theorem a_lkp {x y z w u}:ae Φ d (.lkp x y z w u) K σ=oM (σ.val (.lkp x y z w u)) (dN σ d K):=co rfl
theorem QX {x y z w u}:af Φ d (.lkp x y z w u) K σ=ae Φ d (.lkp x y z w u) K σ:=propext Iff.rfl
theorem a_mm {x y z}:ae Φ d (.mm x y z) K σ=oM (σ.val (.mm x y z)) (dN σ d K):=co rfl
theorem aD_mm {x y z}:af Φ d (.mm x y z) K σ=ae Φ d (.mm x y z) K σ:=propext Iff.rfl
theorem a_nlq {x y z}:ae Φ d (.nlq x y z) K σ=oM (σ.val (.nlq x y z)) (dN σ d K):=co rfl
theorem QM {x y z}:af Φ d (.nlq x y z) K σ=ae Φ d (.nlq x y z) K σ:=propext Iff.rfl
theorem Ri {x}:af Φ d (.alc x) K σ=ae Φ d (.alc x) K σ:=propext Iff.rfl
theorem Q9 {x}:af Φ d (.box x) K σ=ae Φ d (.box x) K σ:=propext Iff.rfl
theorem aD_st {x y z}:af Φ d (.st x y z) K σ=ae Φ d (.st x y z) K σ:=propext Iff.rfl
def tG (σ:St) (x y:AO):Option Bool:=match σ.ev y with
 | some v=>some (mn x v)
 | none=>none
def Ky (A:Prop) (b:Bool):Prop:=match b with
 | true=>False
 | false=>A
theorem Hz {A:Prop}:Ky A false=A:=propext Iff.rfl
theorem KF {x y z w u}:af Φ d (.app x y z w u) K σ=oM (tG σ x y) (Ky (ae Φ d (.app x y z w u) K σ)):=by
 simp only [af,tG]
 cases σ.ev y with
 | none=>rfl
 | some v=>simp only [oM]; cases mn x v<;>simp [Ky]
theorem Rh {z}:af Φ d (.alq z) K σ=ae Φ d (.alq z) K σ:=propext Iff.rfl
theorem QR {e sz by' z n}:af Φ d (.mkq e sz by' z n) K σ=ae Φ d (.mkq e sz by' z n) K σ:=propext Iff.rfl
theorem KC {e sz xs}:af Φ d (.ltr e sz xs) K σ=ae Φ d (.ltr e sz xs) K σ:=propext Iff.rfl
theorem QQ {x y z w u}:af Φ d (.mks x y z w u) K σ=ae Φ d (.mks x y z w u) K σ:=propext Iff.rfl
theorem QW {x y z w}:af Φ d (.mk0 x y z w) K σ=ae Φ d (.mk0 x y z w) K σ:=propext Iff.rfl
theorem QT {x y z w u}:af Φ d (.mkm x y z w u) K σ=ae Φ d (.mkm x y z w u) K σ:=propext Iff.rfl
theorem QI {x}:af Φ d (.s2b x) K σ=ae Φ d (.s2b x) K σ:=propext Iff.rfl
theorem a_alc {z}:ae Φ d (.alc z) K σ=K ({ σ with h:=σ.h++[some (Ob.box z)] }.put d (.ptr σ.h.length 0)):=propext Iff.rfl
def Qs (σ:St) (x:AO):Option (List V):=match σ.ev x with
 | some v=>if nt v=true then some (cl v) else none
 | none=>none
def boxK (σ:St) (d:Option Nat) (K:St→Prop) (cs:List V):Prop:=K ({ σ with h:=σ.h++[some (Ob.box cs)] }.put d (.ptr σ.h.length 0))
theorem Ko {cs:List V}:boxK σ d K cs=K ({ σ with h:=σ.h++[some (Ob.box cs)] }.put d (.ptr σ.h.length 0)):=propext Iff.rfl
theorem a_box {x}:ae Φ d (.box x) K σ=oM (Qs σ x) (boxK σ d K):=by
 simp only [ae,Qs]
 cases σ.ev x with
 | none=>rfl
 | some v=>simp only; split<;>rfl
def stV (σ:St) (n:Nat) (p x:AO):Option St:=match σ.ev p,σ.ev x with
 | some a,some v=>if nt v=true then σ.stor n a (cl v) else none
 | _,_=>none
theorem a_st {n p x}:ae Φ d (.st n p x) K σ=oM (stV σ n p x) (skK d K):=by
 simp only [ae,stV]
 cases σ.ev p with
 | none=>rfl
 | some a=>cases σ.ev x with
   | none=>rfl
   | some v=>
     simp only
     split
     · cases σ.stor n a (cl v)<;>rfl
     · rfl
def Pm (σ:St) (x:AO):Option (List UInt8):=match σ.ev x with
 | some (.str s)=>some s
 | _=>none
def s2bK (σ:St) (d:Option Nat) (K:St→Prop) (s:List UInt8):Prop:=rqK (s.length≤140737488355328) K (σ.put d (.seq 1 (dR s)))
theorem IK {s:List UInt8}:s2bK σ d K s=rqK (s.length≤140737488355328) K (σ.put d (.seq 1 (dR s))):=propext Iff.rfl
theorem a_s2b {x}:ae Φ d (.s2b x) K σ=oM (Pm σ x) (s2bK σ d K):=by
 simp only [ae,Pm,oM]
 cases σ.ev x with
 | none=>rfl
 | some v=>cases v<;>rfl
def MS (σ:St) (d:Option Nat) (sz:Nat) (K:St→Prop) (vs us:List V):Prop:=rqK (aM sz us=true∧us.length≤16777216) K ((σ.kill (aj vs)).put d (.seq sz us))
theorem Ju {sz:Nat} {vs us:List V}:MS σ d sz K vs us=rqK (aM sz us=true∧us.length≤16777216) K ((σ.kill (aj vs)).put d (.seq sz us)):=propext Iff.rfl
def Jv (σ:St) (d:Option Nat) (sz:Nat) (K:St→Prop) (vs:List V):Prop:=oM (purs σ.h vs) (MS σ d sz K vs)
theorem GD {sz:Nat} {vs:List V}:Jv σ d sz K vs=oM (purs σ.h vs) (MS σ d sz K vs):=propext Iff.rfl
theorem a_lit {e sz xs}:ae Φ d (.lit e sz xs) K σ=oM (σ.evs xs) (Jv σ d sz K):=by
 simp only [ae,oM]
 cases σ.evs xs with
 | none=>rfl
 | some vs=>
   simp only [Jv,oM]
   cases purs σ.h vs with
   | none=>rfl
   | some us=>simp only [MS,rqK,and_assoc]
def Fw (σ:St) (d:Option Nat) (sz:Nat) (K:St→Prop) (us:List V):Prop:=rqK (aM sz us=true∧us.length≤16777216) K (σ.put d (.seq sz us))
theorem GE {sz:Nat} {us:List V}:Fw σ d sz K us=rqK (aM sz us=true∧us.length≤16777216) K (σ.put d (.seq sz us)):=propext Iff.rfl
def Ec (σ:St) (d:Option Nat) (sz:Nat) (K:St→Prop) (vs:List V):Prop:=oM (purs [] vs) (Fw σ d sz K)
theorem Eb {sz:Nat} {vs:List V}:Ec σ d sz K vs=oM (purs [] vs) (Fw σ d sz K):=propext Iff.rfl
theorem QY {e sz xs}:af Φ d (.lit e sz xs) K σ=oM (σ.evs xs) (Ec σ d sz K):=by
 simp only [af,oM]
 cases σ.evs xs with
 | none=>rfl
 | some vs=>
   simp only [Ec,oM]
   cases purs [] vs with
   | none=>rfl
   | some us=>simp only [Fw,rqK,and_assoc]
def Dn (σ:St) (e sz by':Nat) (u v:V):Option (St × V × Nat):=match src σ.h v with
 | some (.seq sz' l)=>if sz'=sz then
   (match u with
   | .nil _=>some ({ σ with h:=σ.h++[some (Ob.arr e sz l)] },.ref σ.h.length l.length,l.length * by')
   | .ref id n=>match σ.arr? id with
     | some (e',sz',l0)=>if e'=e∧sz'=sz∧n=l0.length then
       some ({ σ with h:=σ.h.set id (some (Ob.arr e sz (l0++l))) },.ref id (n + l.length),(n + l.length) * by') else none
     | none=>none
   | .mref id i n=>match σ.rws? id with
     | some (e1,e2,sz2,rows)=>match aK rows i with
       | some r=>if e2=e∧sz2=sz∧n=r.length then
         some ({ σ with h:=σ.h.set id (some (Ob.mat e1 e2 sz2 (rows.set i (.g r.length))))++[some (Ob.arr e sz (r++l))] },.ref σ.h.length (n + l.length),(n + l.length) * by') else none
       | none=>none
     | none=>none
   | _=>none) else none
 | _=>none
def Dk (σ:St) (e sz by' k j n:Nat) (v:V):Option (St × V × Nat):=match σ.pl? with
 | some ms=>match ms[j]?,vM σ ms sz v with
   | some (.rw e' sz' l0),some l=>if k=1∧e'=e∧sz'=sz∧n=l0.length then some (σ.setP (ms.set j (.rw e sz (l0++l))),.q 1 j (n + l.length) 0 0,(n + l.length) * by') else none
   | _,_=>none
 | none=>none
def Dl (σ:St) (e sz by' k j n:Nat):Option (St × V × Nat):=match σ.pl? with
 | some ms=>match ms[j]? with
   | some (.rw _ sz' l)=>if k=1∧sz'=sz∧n=l.length then some (σ.setP (ms++[.rw e sz l]),.q 1 ms.length n 0 0,n * by') else none
   | _=>none
 | none=>none
def Nt (σ:St) (x y:AO) (e sz by':Nat):Option (St × V × Nat):=match σ.ev x,σ.ev y with
 | some (.q k j n _ _),some v=>Dk σ e sz by' k j n v
 | some (.nil _),some (.q k j n _ _)=>Dl σ e sz by' k j n
 | some u,some v=>Dn σ e sz by' u v
 | _,_=>none
def xL (d:Option Nat) (K:St→Prop) (p:St × V × Nat):Prop:=rqK (p.2.2≤140737488355328) K (p.1.put d p.2.1)
theorem Kx {τ:St} {v:V} {n:Nat}:xL d K (τ,v,n)=rqK (n≤140737488355328) K (τ.put d v):=propext Iff.rfl
theorem Nu {e sz by' k j n v}:AU σ d e sz by' k j n v K=oM (Dk σ e sz by' k j n v) (xL d K):=by
 simp only [AU,Dk]
 cases σ.pl? with
 | none=>rfl
 | some ms=>
   simp only
   cases ms[j]? with
   | none=>rfl
   | some m=>
     cases m with
     | bx e cs=>rfl
     | byt e s=>rfl
     | no=>rfl
     | rw e' sz' l0=>
       cases vM σ ms sz v with
       | none=>rfl
       | some l=>
         simp only
         split
         · rename_i hc
           simp only [oM,xL,rqK,hc.1,hc.2.1,hc.2.2.1,hc.2.2.2,true_and]
         · rename_i hc
           simp only [oM]
           exact propext ⟨fun h=>hc ⟨h.1,h.2.1,h.2.2.1,h.2.2.2.1⟩,fun h=>h.elim⟩
theorem Nv {e sz by' k j n}:AV σ d e sz by' k j n K=oM (Dl σ e sz by' k j n) (xL d K):=by
 simp only [AV,Dl]
 cases σ.pl? with
 | none=>rfl
 | some ms=>
   simp only
   cases ms[j]? with
   | none=>rfl
   | some m=>
     cases m with
     | bx e cs=>rfl
     | byt e s=>rfl
     | no=>rfl
     | rw e' sz' l=>
       simp only
       split
       · rename_i hc
         simp only [oM,xL,rqK,hc.1,hc.2.1,hc.2.2,true_and]
       · rename_i hc
         simp only [oM]
         exact propext ⟨fun h=>hc ⟨h.1,h.2.1,h.2.2.1⟩,fun h=>h.elim⟩
def Dm (σ:St) (d:Option Nat) (e sz by':Nat) (u v:V) (K:St→Prop):Prop:=match src σ.h v with
 | some (.seq sz' l)=>sz'=sz∧
   (match u with
   | .nil _=>l.length * by'≤140737488355328∧K ({ σ with h:=σ.h++[some (Ob.arr e sz l)] }.put d (.ref σ.h.length l.length))
   | .ref id n=>match σ.arr? id with
     | some (e',sz',l0)=>e'=e∧sz'=sz∧n=l0.length∧(n + l.length) * by'≤140737488355328∧
       K ({ σ with h:=σ.h.set id (some (Ob.arr e sz (l0++l))) }.put d (.ref id (n + l.length)))
     | none=>False
   | .mref id i n=>match σ.rws? id with
     | some (e1,e2,sz2,rows)=>match aK rows i with
       | some r=>e2=e∧sz2=sz∧n=r.length∧(n + l.length) * by'≤140737488355328∧
         K ({ σ with h:=σ.h.set id (some (Ob.mat e1 e2 sz2 (rows.set i (.g r.length))))++[some (Ob.arr e sz (r++l))] }.put d (.ref σ.h.length (n + l.length)))
       | none=>False
     | none=>False
   | _=>False)
 | _=>False
theorem FK {e sz by' u v}:Dm σ d e sz by' u v K=oM (Dn σ e sz by' u v) (xL d K):=by
 simp only [Dm,Dn]
 cases src σ.h v with
 | none=>rfl
 | some w=>
   cases w<;>try rfl
   rename_i sz' l
   simp only
   by_cases hs:sz'=sz
   · simp only [hs,true_and,if_true]
     cases u<;>try rfl
     · rename_i id n
       cases ha:σ.arr? id with
       | none=>simp only [ha]; rfl
       | some p=>
         obtain ⟨e',sz2,l0⟩:=p
         simp only [ha]
         split
         · rename_i hc
           simp only [oM,xL,rqK,hc.1,hc.2.1,hc.2.2,true_and]
         · rename_i hc
           simp only [oM]
           exact propext ⟨fun h=>hc ⟨h.1,h.2.1,h.2.2.1⟩,fun h=>h.elim⟩
     · rename_i id i n
       cases ha:σ.rws? id with
       | none=>simp only [ha]; rfl
       | some p=>
         obtain ⟨e1,e2,sz2,rows⟩:=p
         simp only [ha]
         cases hr:aK rows i with
         | none=>simp only [hr]; rfl
         | some r=>
           simp only [hr]
           split
           · rename_i hc
             simp only [oM,xL,rqK,hc.1,hc.2.1,hc.2.2,true_and]
           · rename_i hc
             simp only [oM]
             exact propext ⟨fun h=>hc ⟨h.1,h.2.1,h.2.2.1⟩,fun h=>h.elim⟩
   · rw [if_neg hs]
     simp only [oM]
     exact propext ⟨fun h=>hs h.1,fun h=>h.elim⟩
theorem Oi {x y e sz by'}:ae Φ d (.app x y e sz by') K σ=oM (Nt σ x y e sz by') (xL d K):=by
 have key:∀ u v:V,(∀ k j n i o,u≠V.q k j n i o)→(∀ z k j n i o,u=V.nil z→v≠V.q k j n i o)→(match some u,some v with
  | some (.q k j n i o),some v=>AU σ d e sz by' k j n v K
  | some (.nil _),some (.q k j n i o)=>AV σ d e sz by' k j n K
  | some u,some v=>Dm σ d e sz by' u v K
  | _,_=>False)=oM (match some u,some v with
  | some (.q k j n _ _),some v=>Dk σ e sz by' k j n v
  | some (.nil _),some (.q k j n _ _)=>Dl σ e sz by' k j n
  | some u,some v=>Dn σ e sz by' u v
  | _,_=>none) (xL d K):=by
  intro u v h1 h2
  cases u<;>try exact FK
  · cases v<;>first | exact FK | exact (h2 _ _ _ _ _ _ rfl rfl).elim
  · exact (h1 _ _ _ _ _ rfl).elim
 simp only [ae,Nt]
 cases σ.ev x with
 | none=>cases σ.ev y<;>rfl
 | some u=>cases σ.ev y with
   | none=>cases u<;>rfl
   | some v=>
     by_cases hq:∃ k j n i o,u=.q k j n i o
     · obtain ⟨k,j,n,i,o,rfl⟩:=hq
       exact Nu
     · by_cases hn:∃ z k j n i o,u=.nil z∧v=.q k j n i o
       · obtain ⟨z,k,j,n,i,o,rfl,rfl⟩:=hn
         exact Nv
       · exact key u v (fun k j n i o e=>hq ⟨k,j,n,i,o,e⟩) (fun z k j n i o e e'=>hn ⟨z,k,j,n,i,o,e,e'⟩)
def pK (d:Option Nat) (K:St→Prop) (p:St × V):Prop:=K (p.1.put d p.2)
theorem PT {τ:St} {v:V}:pK d K (τ,v)=K (τ.put d v):=propext Iff.rfl
def Nw (σ:St) (z:List V):Option (St × V):=match σ.pl?,lE z with
 | some ms,some z'=>some (σ.setP (ms++[.bx 0 z']),.q 0 ms.length 0 0 0)
 | _,_=>none
def Nh (σ:St) (x:AO):Option (Nat × Nat × Nat × List V):=match σ.ev x with
 | some (.ref id n)=>match σ.arr? id with
   | some (_,sz,l)=>some (id,n,sz,l)
   | none=>none
 | _=>none
def cvbK (σ:St) (d:Option Nat) (K:St→Prop) (p:Nat × Nat × Nat × List V):Prop:=rqK (p.2.2.1=1∧p.2.1=p.2.2.2.length∧p.2.2.2≠[]) K ({ σ with h:=σ.h.set p.1 none }.put d (.seq 1 p.2.2.2))
theorem Dd {id n sz l}:cvbK σ d K (id,n,sz,l)=rqK (sz=1∧n=l.length∧l≠[]) K ({ σ with h:=σ.h.set id none }.put d (.seq 1 l)):=propext Iff.rfl
theorem Oe {x}:ae Φ d (.cvb x) K σ=oM (Nh σ x) (cvbK σ d K):=by
 simp only [ae,Nh]
 cases σ.ev x with
 | none=>rfl
 | some v=>
   cases v with
   | ref id n=>
     simp only
     cases σ.arr? id with
     | none=>rfl
     | some p=>
       obtain ⟨e,sz,l⟩:=p
       simp only [oM,Dd,rqK,and_assoc]
   | _=>rfl
theorem Q6 {x}:af Φ d (.cvb x) K σ=ae Φ d (.cvb x) K σ:=propext Iff.rfl
theorem Of {x}:ae Φ d (.bxq x) K σ=oM (xJ σ x) (pK d K):=by
 simp only [ae]
 cases xJ σ x<;>rfl
theorem Q8 {x}:af Φ d (.bxq x) K σ=ae Φ d (.bxq x) K σ:=propext Iff.rfl
theorem Ok {z}:ae Φ d (.alq z) K σ=oM (Nw σ z) (pK d K):=by
 simp only [ae,Nw]
 cases σ.pl?<;>cases lE z<;>rfl
def MK (σ:St) (z:V) (n:AO):Option (Int × List Po × V):=match σ.ev n,σ.pl?,low z with
 | some (.int _ m),some ms,some z'=>some (m,ms,z')
 | _,_,_=>none
def P3 (σ:St) (d:Option Nat) (e sz by':Nat) (K:St→Prop) (p:Int × List Po × V):Prop:=rqK (0≤p.1∧p.1 * by'≤140737488355328) K ((σ.setP (p.2.1++[.rw e sz (List.replicate p.1.toNat p.2.2)])).put d (.q 1 p.2.1.length p.1.toNat 0 0))
theorem Jm {e sz by'} {m:Int} {ms z}:P3 σ d e sz by' K (m,ms,z)=rqK (0≤m∧m * by'≤140737488355328) K ((σ.setP (ms++[.rw e sz (List.replicate m.toNat z)])).put d (.q 1 ms.length m.toNat 0 0)):=propext Iff.rfl
theorem Oc {e sz by' z n}:ae Φ d (.mkq e sz by' z n) K σ=oM (MK σ z n) (P3 σ d e sz by' K):=by
 simp only [ae,MK]
 cases σ.ev n with
 | none=>cases σ.pl?<;>cases low z<;>rfl
 | some v=>cases v<;>cases σ.pl?<;>cases low z<;>first | rfl | simp only [oM,P3,rqK,and_assoc]
def Fr (σ:St) (e sz:Nat) (vs:List V):Option (St × V × List V):=match σ.pl?,lE vs with
 | some ms,some us=>some (σ.setP (ms++[.rw e sz us]),.q 1 ms.length us.length 0 0,us)
 | _,_=>none
def Jr (d:Option Nat) (sz:Nat) (K:St→Prop) (p:St × V × List V):Prop:=rqK (aM sz p.2.2=true∧p.2.2.length≤16777216∧0 < sz) K (p.1.put d p.2.1)
theorem GB {sz:Nat} {τ:St} {v:V} {us:List V}:Jr d sz K (τ,v,us)=rqK (aM sz us=true∧us.length≤16777216∧0 < sz) K (τ.put d v):=propext Iff.rfl
theorem B3 {e sz:Nat} {vs:List V}:wv σ d e sz vs K=oM (Fr σ e sz vs) (Jr d sz K):=by
 simp only [wv,Fr]
 cases σ.pl?<;>cases lE vs<;>first | rfl | simp only [oM,Jr,rqK,and_assoc]
def MP (σ:St) (d:Option Nat) (e sz:Nat) (K:St→Prop) (vs us:List V):Prop:=rqK (aM sz us=true∧us.length≤16777216) K (St.put ⟨(σ.kill (aj vs)).r,(σ.kill (aj vs)).h++[some (Ob.arr e sz us)]⟩ d (.ref (σ.kill (aj vs)).h.length us.length))
theorem B4 {e sz:Nat} {vs us:List V}:MP σ d e sz K vs us=rqK (aM sz us=true∧us.length≤16777216) K (St.put ⟨(σ.kill (aj vs)).r,(σ.kill (aj vs)).h++[some (Ob.arr e sz us)]⟩ d (.ref (σ.kill (aj vs)).h.length us.length)):=propext Iff.rfl
def Jt (σ:St) (d:Option Nat) (e sz:Nat) (K:St→Prop) (vs:List V):Prop:=oN (purs σ.h vs) (MP σ d e sz K vs) (wv σ d e sz vs K)
theorem q0 {e sz:Nat} {vs:List V}:Jt σ d e sz K vs=oN (purs σ.h vs) (MP σ d e sz K vs) (wv σ d e sz vs K):=propext Iff.rfl
theorem KB {e sz xs}:ae Φ d (.ltr e sz xs) K σ=oM (σ.evs xs) (Jt σ d e sz K):=by
 simp only [ae]
 cases σ.evs xs with
 | none=>rfl
 | some vs=>
   simp only [Jt,oM]
   cases purs σ.h vs with
   | none=>rfl
   | some us=>simp only [oN,MP,rqK,and_assoc]
def Nq (σ:St) (y:AO) (sz:Nat):Option (List V):=match σ.ev y with
 | some v=>match src σ.h v with
   | some (.seq sz' l)=>if sz'=sz then some l else none
   | _=>none
 | none=>none
def Qu (σ:St) (d:Option Nat) (sz by':Nat) (K:St→Prop) (l:List V):Prop:=rqK (l.length * by'≤140737488355328) K (σ.put d (.seq sz l))
theorem Ku {sz by':Nat} {l:List V}:Qu σ d sz by' K l=rqK (l.length * by'≤140737488355328) K (σ.put d (.seq sz l)):=propext Iff.rfl
theorem Og {y e sz by'}:ae Φ d (.apz y e sz by') K σ=oM (Nq σ y sz) (Qu σ d sz by' K):=by
 simp only [ae,Nq]
 cases σ.ev y with
 | none=>rfl
 | some v=>
   simp only
   cases src σ.h v with
   | none=>rfl
   | some u=>
     cases u<;>try rfl
     simp only
     split
     · rename_i h; simp only [oM,Qu,rqK,h,true_and]
     · rename_i h; simp only [oM]; exact propext ⟨fun g=>h g.1,fun g=>g.elim⟩
theorem Re {y e sz by'}:af Φ d (.apz y e sz by') K σ=ae Φ d (.apz y e sz by') K σ:=propext Iff.rfl
def Mt (σ:St) (y:AO):Option (List UInt8 × List Po):=match σ.ev y,σ.pl? with
 | some (.str s),some ms=>some (s,ms)
 | _,_=>none
def sbqK (σ:St) (d:Option Nat) (K:St→Prop) (p:List UInt8 × List Po):Prop:=rqK (p.1≠[]∧p.1.length≤140737488355328) K ((σ.setP (p.2++[.byt 0 p.1])).put d (.q 1 p.2.length p.1.length 0 0))
theorem II {s ms}:sbqK σ d K (s,ms)=rqK (s≠[]∧s.length≤140737488355328) K ((σ.setP (ms++[.byt 0 s])).put d (.q 1 ms.length s.length 0 0)):=propext Iff.rfl
theorem N8 {y}:ae Φ d (.sbq y) K σ=oM (Mt σ y) (sbqK σ d K):=by
 simp only [ae,Mt]
 cases σ.ev y with
 | none=>cases σ.pl?<;>rfl
 | some v=>cases v<;>cases σ.pl?<;>rfl
theorem QH {y}:af Φ d (.sbq y) K σ=ae Φ d (.sbq y) K σ:=propext Iff.rfl
def Kv (σ:St) (e k j n:Nat) (s:List UInt8):Option (Nat × Nat × St × V):=match σ.pl? with
 | some ms=>match ms[j]? with
   | some (.byt e0 s0)=>if k=1∧n=s0.length then some (e0,n + s.length,σ.setP (ms.set j (.byt e0 (s0++s))),.q 1 j (n + s.length) 0 0) else none
   | _=>none
 | none=>none
def Qv (d:Option Nat) (e:Nat) (K:St→Prop) (p:Nat × Nat × St × V):Prop:=rqK ((p.1=0∨p.1=e)∧p.2.1≤140737488355328) K (p.2.2.1.put d p.2.2.2)
theorem Kw {e e0 n:Nat} {τ:St} {v:V}:Qv d e K (e0,n,τ,v)=rqK ((e0=0∨e0=e)∧n≤140737488355328) K (τ.put d v):=propext Iff.rfl
theorem vC {e k j n s}:qH σ d e k j n s K=oM (Kv σ e k j n s) (Qv d e K):=by
 simp only [qH,Kv]
 cases σ.pl? with
 | none=>rfl
 | some ms=>
   simp only
   cases ms[j]? with
   | none=>rfl
   | some m=>
     cases m<;>try rfl
     simp only
     split
     · rename_i hc
       simp only [oM,Qv,rqK,hc.1,hc.2,true_and,and_assoc]
     · rename_i hc
       simp only [oM]
       exact propext ⟨fun h=>hc ⟨h.1,h.2.2.1⟩,fun h=>h.elim⟩
def Ns (σ:St) (x y:AO):Option (Nat × Nat × Nat × List UInt8):=match σ.ev x,σ.ev y with
 | some (.q k j n _ _),some (.str s)=>some (k,j,n,s)
 | _,_=>none
def Nr (σ:St) (x y:AO):Option (Nat × Nat × Nat × List UInt8):=match σ.ev x,σ.ev y with
 | some (.q k j n _ _),some v=>match Bl σ v with
   | some s=>some (k,j,n,s)
   | none=>none
 | _,_=>none
def Qw (σ:St) (d:Option Nat) (e:Nat) (K:St→Prop) (p:Nat × Nat × Nat × List UInt8):Prop:=qH σ d e p.1 p.2.1 p.2.2.1 p.2.2.2 K
theorem vD {e k j n:Nat} {s:List UInt8}:Qw σ d e K (k,j,n,s)=qH σ d e k j n s K:=propext Iff.rfl
theorem Oh {x y e}:ae Φ d (.aps x y e) K σ=oM (Ns σ x y) (Qw σ d e K):=by
 simp only [ae,Ns]
 cases σ.ev x with
 | none=>cases σ.ev y<;>rfl
 | some u=>cases u<;>(cases σ.ev y with | none=>rfl | some v=>cases v<;>rfl)
theorem Rf {x y e}:af Φ d (.aps x y e) K σ=ae Φ d (.aps x y e) K σ:=propext Iff.rfl
theorem Oj {x y e}:ae Φ d (.apb x y e) K σ=oM (Nr σ x y) (Qw σ d e K):=by
 simp only [ae,Nr]
 cases σ.ev x with
 | none=>cases σ.ev y<;>rfl
 | some u=>cases u<;>(cases σ.ev y with | none=>rfl | some v=>first | rfl | (simp only; cases Bl σ v<;>rfl))
theorem Rg {x y e}:af Φ d (.apb x y e) K σ=ae Φ d (.apb x y e) K σ:=propext Iff.rfl
def albK (σ:St) (d:Option Nat) (t e:Nat) (z:List V) (K:St→Prop) (ms:List Po):Prop:=rqK (z=[.nilptr,.nil 1]) K ((σ.setP (ms++[.byt e [],.bx t [.nilptr,.q 1 ms.length 0 0 0]])).put d (.q 0 (ms.length + 1) 0 0 0))
theorem KA {t e z ms}:albK σ d t e z K ms=rqK (z=[.nilptr,.nil 1]) K ((σ.setP (ms++[.byt e [],.bx t [.nilptr,.q 1 ms.length 0 0 0]])).put d (.q 0 (ms.length + 1) 0 0 0)):=propext Iff.rfl
theorem Ol {t e z}:ae Φ d (.alb t e z) K σ=oM σ.pl? (albK σ d t e z K):=by
 simp only [ae]
 cases σ.pl?<;>rfl
theorem Rj {t e z}:af Φ d (.alb t e z) K σ=ae Φ d (.alb t e z) K σ:=propext Iff.rfl
def It (σ:St) (x:AO):Option V:=match σ.ev x,σ.pl? with
 | some (.q k j n _ _),some ms=>match ms[j]? with
   | some (.byt _ s)=>if k=1∧n=s.length then some (if s=[] then .nilptr else .q 2 j n 0 0) else none
   | _=>none
 | _,_=>none
theorem N6 {x}:ae Φ d (.usd x) K σ=oM (It σ x) (dN σ d K):=by
 simp only [ae,It]
 split
 · rename_i k j n i0 o0 ms hx hms
   simp only [hx,hms]
   cases ms[j]? with
   | none=>rfl
   | some m=>
     cases m<;>try rfl
     rename_i e0 s
     by_cases hc:k=1∧n=s.length
     · simp only [if_pos hc,oM,dN]
       exact propext ⟨fun h=>h.2.2,fun h=>⟨hc.1,hc.2,h⟩⟩
     · simp only [if_neg hc,oM]
       exact propext ⟨fun h=>hc ⟨h.1,h.2.1⟩,fun h=>h.elim⟩
 · rename_i h
   split
   · rename_i k j n i0 o0 ms hx hms
     exact (h _ _ _ _ _ _ hx hms).elim
   · rfl
theorem QD {x}:af Φ d (.usd x) K σ=ae Φ d (.usd x) K σ:=propext Iff.rfl
def DI (σ:St) (p n:AO):Option (Prop × Nat × St × List UInt8):=match σ.ev p,σ.ev n with
 | some .nilptr,some (.int .i64 m)=>some (m=0,0,σ,[])
 | some (.q k j m i o),some (.int .i64 q)=>match σ.pl? with
   | some ms=>match ms[j]? with
     | some (.byt e0 s)=>some (k=2∧i=0∧o=0∧m=s.length∧q=s.length∧s≠[],e0,σ.setP (ms.set j .no),s)
     | _=>none
   | none=>none
 | _,_=>none
def L5 (d:Option Nat) (e:Nat) (K:St→Prop) (p:Prop × Nat × St × List UInt8):Prop:=rqK (p.1∧(p.2.2.2=[]∨(e≠0∧p.2.1=e))) K (p.2.2.1.put d (.str p.2.2.2))
theorem Is {e:Nat} {c:Prop} {e0:Nat} {τ:St} {s:List UInt8}:L5 d e K (c,e0,τ,s)=rqK (c∧(s=[]∨(e≠0∧e0=e))) K (τ.put d (.str s)):=propext Iff.rfl
theorem N5 {p n e}:ae Φ d (.ust p n e) K σ=oM (DI σ p n) (L5 d e K):=by
 refine propext ⟨fun h=>?_,fun h=>?_⟩
 · simp only [ae] at h
   split at h
   · rename_i m h1 h2
     simp only [DI,h1,h2,oM,L5]
     exact ⟨⟨h.1,.inl trivial⟩,h.2⟩
   · rename_i k j m i0 o0 q h1 h2
     split at h
     · rename_i ms h3
       split at h
       · rename_i e0 s hj
         obtain ⟨g1,g2,g3,g4,g5,g6,g7,g8,g9⟩:=h
         simp only [DI,h1,h2,h3,hj,oM,L5]
         exact ⟨⟨⟨g1,g2,g3,g6,g7,g8⟩,.inr ⟨g4,g5⟩⟩,g9⟩
       · exact h.elim
     · exact h.elim
   · exact h.elim
 · unfold DI at h
   split at h
   · rename_i m h1 h2
     simp only [ae,h1,h2]
     exact ⟨h.1.1,h.2⟩
   · rename_i k j m i0 o0 q h1 h2
     split at h
     · rename_i ms h3
       split at h
       · rename_i e0 s hj
         obtain ⟨⟨⟨g1,g2,g3,g6,g7,g8⟩,g45⟩,g9⟩:=h
         have g45:=g45.resolve_left g8
         simp only [ae,h1,h2,h3,hj]
         exact ⟨g1,g2,g3,g45.1,g45.2,g6,g7,g8,g9⟩
       · exact h.elim
     · exact h.elim
   · exact h.elim
theorem QC {p n e}:af Φ d (.ust p n e) K σ=ae Φ d (.ust p n e) K σ:=propext Iff.rfl
def J4 (σ:St) (kt:KT) (x k:AO):Option (V × St):=match σ.ev x,σ.ev k with
 | some (.ref id _),some kv=>match σ.mp? id with
   | some (kt',l)=>if kt'=kt then some (kv,{ σ with h:=σ.h.set id (some (Ob.mp kt (sP kv l))) }) else none
   | none=>none
 | _,_=>none
def delK (d:Option Nat) (kt:KT) (K:St→Prop) (p:V × St):Prop:=rqK (aU kt p.1=true) K (p.2.put d (.tup []))
theorem J5 {kt:KT} {kv:V} {τ:St}:delK d kt K (kv,τ)=rqK (aU kt kv=true) K (τ.put d (.tup [])):=propext Iff.rfl
theorem Od {kt x k}:ae Φ d (.del kt x k) K σ=oM (J4 σ kt x k) (delK d kt K):=by
 refine propext ⟨fun h=>?_,fun h=>?_⟩
 · simp only [ae] at h
   split at h
   · rename_i id n kv h1 h2
     split at h
     · rename_i kt' l hm
       simp only [J4,h1,h2,hm]
       rw [if_pos h.1]
       exact ⟨h.2.1,h.2.2⟩
     · exact h.elim
   · exact h.elim
 · unfold J4 at h
   split at h
   · rename_i id n kv h1 h2
     split at h
     · rename_i kt' l hm
       split at h
       · rename_i hc
         simp only [ae,h1,h2,hm]
         exact ⟨hc,h.1,h.2⟩
       · exact h.elim
     · exact h.elim
   · exact h.elim
theorem Q5 {kt x k}:af Φ d (.del kt x k) K σ=ae Φ d (.del kt x k) K σ:=propext Iff.rfl
def DJ (σ:St) (x hi:AO) (sz:Nat):Option (Int × Nat × St × V):=match σ.ev x,σ.ev hi with
 | some (.q k j n _ _),some (.int _ b)=>match σ.pl? with
   | some ms=>match ms[j]? with
     | some (.rw e sz' l)=>if k=1∧sz'=sz∧n=l.length then some (b,n,σ.setP (ms.set j .no++[.rw e sz (l.take b.toNat)]),.q 1 ms.length b.toNat 0 0) else none
     | _=>none
   | none=>none
 | some (.ref id n),some (.int _ b)=>match σ.arr? id with
   | some (e,sz',l)=>if sz'=sz∧n=l.length then some (b,n,{ σ with h:=σ.h.set id none++[some (Ob.arr e sz (l.take b.toNat))] },.ref σ.h.length b.toNat) else none
   | none=>none
 | _,_=>none
def trcK (d:Option Nat) (K:St→Prop) (p:Int × Nat × St × V):Prop:=rqK (0≤p.1∧p.1≤p.2.1) K (p.2.2.1.put d p.2.2.2)
theorem Bg {b:Int} {n:Nat} {τ:St} {v:V}:trcK d K (b,n,τ,v)=rqK (0≤b∧b≤n) K (τ.put d v):=propext Iff.rfl
theorem N7 {x hi sz}:ae Φ d (.trc x hi sz) K σ=oM (DJ σ x hi sz) (trcK d K):=by
 refine propext ⟨fun h=>?_,fun h=>?_⟩
 · simp only [ae] at h
   split at h
   · rename_i k j n i0 o0 kk b h1 h2
     split at h
     · rename_i ms hms
       split at h
       · rename_i e sz' l hj
         obtain ⟨g1,g2,g3,g4,g5,g6⟩:=h
         simp only [DJ,h1,h2,hms,hj,g1,g2,and_self,if_true,true_and]
         rw [if_pos g3]
         exact ⟨⟨g4,g5⟩,g6⟩
       · exact h.elim
     · exact h.elim
   · rename_i id n kk b h1 h2
     split at h
     · rename_i e sz' l ha
       obtain ⟨g2,g3,g4,g5,g6⟩:=h
       simp only [DJ,h1,h2,ha,g2,true_and]
       rw [if_pos g3]
       exact ⟨⟨g4,g5⟩,g6⟩
     · exact h.elim
   · exact h.elim
 · unfold DJ at h
   split at h
   · rename_i k j n i0 o0 kk b h1 h2
     split at h
     · rename_i ms hms
       split at h
       · rename_i e sz' l hj
         split at h
         · rename_i hc
           simp only [ae,h1,h2,hms,hj]
           exact ⟨hc.1,hc.2.1,hc.2.2,h.1.1,h.1.2,h.2⟩
         · exact h.elim
       · exact h.elim
     · exact h.elim
   · rename_i id n kk b h1 h2
     split at h
     · rename_i e sz' l ha
       split at h
       · rename_i hc
         simp only [ae,h1,h2,ha]
         exact ⟨hc.1,hc.2,h.1.1,h.1.2,h.2⟩
       · exact h.elim
     · exact h.elim
   · exact h.elim
def D7 (σ:St) (n:AO):Option Int:=match σ.ev n with
 | some (.int _ m)=>some m
 | _=>none
def P2 (σ:St) (d:Option Nat) (e sz by':Nat) (z:V) (K:St→Prop) (m:Int):Prop:=
 rqK (0≤m∧m * by'≤140737488355328) K ({ σ with h:=σ.h++[some (Ob.arr e sz (List.replicate m.toNat z))] }.put d (.ref σ.h.length m.toNat))
theorem Jl {e sz by' z} {m:Int}:P2 σ d e sz by' z K m=
 rqK (0≤m∧m * by'≤140737488355328) K ({ σ with h:=σ.h++[some (Ob.arr e sz (List.replicate m.toNat z))] }.put d (.ref σ.h.length m.toNat)):=propext Iff.rfl
theorem a_mks {e sz by' z n}:ae Φ d (.mks e sz by' z n) K σ=oM (D7 σ n) (P2 σ d e sz by' z K):=by
 simp only [ae,D7,oM]
 cases σ.ev n with
 | none=>rfl
 | some v=>cases v<;>first | rfl | simp only [P2,rqK,and_assoc]
def sm (l:List (List V)):List Rw:=l.map .a
theorem Pz {l:List (List V)}:(sm l).length=l.length:=by simp [sm]
theorem ID {l:List (List V)} {i:Nat}:aK (sm l) i=l[i]?:=by
 unfold aK sm
 rw [List.getElem?_map]
 cases l[i]?<;>rfl
theorem tZ {sz:Nat}:∀ {l:List (List V)},gO sz (sm l)=some (l.map (.seq sz))
 | []=>rfl
 | r::l=>by
   have:=tZ (sz:=sz) (l:=l)
   simp only [sm] at this
   simp [sm,gO,this]
theorem IC {l:List (List V)} {i:Nat} {r:List V}:(sm l).set i (.a r)=sm (l.set i r):=by simp [sm]
theorem Gd {l:List (List V)} {i:Nat}:lg (sm l) i=(l[i]?).map List.length:=by
 unfold lg sm
 rw [List.getElem?_map]
 cases l[i]?<;>rfl
theorem Mo {l:List (List V)} {i k:Nat} (h:i < l.length):lg ((sm l).set i (.g k)) i=some k:=by
 unfold lg
 rw [List.getElem?_set_self (by simpa [sm] using h)]
theorem Mp {l:List (List V)} {i k:Nat} {r:List V}:((sm l).set i (.g k)).set i (.a r)=sm (l.set i r):=by rw [List.set_set,IC]
theorem Fh:∀ {l:List (List V)},sf (sm l)=l.all fun r=>c6 r
 | []=>rfl
 | r::l=>by
   have:=Fh (l:=l)
   simp only [sm] at this
   simp [sm,sf,this]
def ML (σ:St) (d:Option Nat) (e by' e2 sz:Nat) (K:St→Prop) (m:Int):Prop:=
 rqK (0≤m∧m * by'≤140737488355328) K ({ σ with h:=σ.h++[some (Ob.mat e e2 sz (List.replicate m.toNat (.a [])))] }.put d (.ref σ.h.length m.toNat))
theorem Jn {e by' e2 sz} {m:Int}:ML σ d e by' e2 sz K m=
 rqK (0≤m∧m * by'≤140737488355328) K ({ σ with h:=σ.h++[some (Ob.mat e e2 sz (sm (List.replicate m.toNat [])))] }.put d (.ref σ.h.length m.toNat)):=by simp [ML,sm]
def P4 (σ:St) (d:Option Nat) (e sz by':Nat) (K:St→Prop) (m:Int):Prop:=
 rqK (0≤m∧m * by'≤140737488355328) K ({ σ with h:=σ.h++[some (Ob.arr e sz [])] }.put d (.ref σ.h.length 0))
theorem Jo {e sz by'} {m:Int}:P4 σ d e sz by' K m=
 rqK (0≤m∧m * by'≤140737488355328) K ({ σ with h:=σ.h++[some (Ob.arr e sz [])] }.put d (.ref σ.h.length 0)):=propext Iff.rfl
theorem a_mk0 {e sz by' n}:ae Φ d (.mk0 e sz by' n) K σ=oM (D7 σ n) (P4 σ d e sz by' K):=by
 simp only [ae,D7,oM]
 cases σ.ev n with
 | none=>rfl
 | some v=>cases v<;>first | rfl | simp only [P4,rqK,and_assoc]
theorem a_mkm {e by' e2 sz n}:ae Φ d (.mkm e by' e2 sz n) K σ=oM (D7 σ n) (ML σ d e by' e2 sz K):=by
 simp only [ae,D7,oM]
 cases σ.ev n with
 | none=>rfl
 | some v=>cases v<;>first | rfl | simp only [ML,rqK,and_assoc]
theorem a_mkp {kt}:ae Φ d (.mkp kt) K σ=K ({ σ with h:=σ.h++[some (Ob.mp kt [])] }.put d (.ref σ.h.length 0)):=propext Iff.rfl
theorem QS {kt}:af Φ d (.mkp kt) K σ=ae Φ d (.mkp kt) K σ:=propext Iff.rfl
theorem QO {x y z w}:af Φ d (.mup x y z w) K σ=ae Φ d (.mup x y z w) K σ:=propext Iff.rfl
def P1 (σ:St) (kt:KT) (x k v:AO):Option St:=match σ.ev x,σ.ev k,σ.ev v with
 | some (.ref id _),some kv,some u=>match σ.mp? id,pur σ.h u with
   | some (kt',l),some u'=>if kt'=kt∧aU kt kv=true∧aw u=[]∧nt u'=true then some { σ with h:=σ.h.set id (some (Ob.mp kt (kM kv u' l))) } else none
   | _,_=>none
 | _,_,_=>none
theorem a_mup {kt x k v}:ae Φ d (.mup kt x k v) K σ=oM (P1 σ kt x k v) (skK d K):=by
 simp only [ae,P1]
 cases σ.ev x with
 | none=>rfl
 | some a=>
   cases σ.ev k with
   | none=>cases a<;>rfl
   | some b=>
     cases σ.ev v with
     | none=>cases a<;>rfl
     | some c=>
       cases a<;>try rfl
       rename_i id n
       simp only
       cases σ.mp? id with
       | none=>rfl
       | some p=>
         obtain ⟨kt',l⟩:=p
         cases pur σ.h c with
         | none=>rfl
         | some u'=>
           simp only
           by_cases hc:kt'=kt∧aU kt b=true∧aw c=[]∧nt u'=true
           · rw [if_pos hc]
             exact propext ⟨fun h=>h.2.2.2.2,fun h=>⟨hc.1,hc.2.1,hc.2.2.1,hc.2.2.2,h⟩⟩
           · rw [if_neg hc]
             exact propext ⟨fun h=>(hc ⟨h.1,h.2.1,h.2.2.1,h.2.2.2.1⟩).elim,fun h=>h.elim⟩
theorem GZ {k:IntKind} {n:Int}:aU ⟨false,[.i k]⟩ (.int k n)=true:=by simp [aU,fe,cl,bm,kOf,aJ]
theorem GY {s:List UInt8}:aU ⟨false,[.s]⟩ (.str s)=true:=by simp [aU,fe,cl,bm,kOf,aJ]
def clK (Φ:Ctr) (d:Option Nat) (f:FuncId) (vs:List V) (σ:St) (K:St→Prop) (us:List V):Prop:=jf Φ d f vs us K σ
def Qo (Φ:Ctr) (d:Option Nat) (f:FuncId) (σ:St) (K:St→Prop) (vs:List V):Prop:=oN (purs σ.h vs) (clK Φ d f vs σ K) (dg Φ d f vs K σ)
theorem Nn {f vs us}:clK Φ d f vs σ K us=jf Φ d f vs us K σ:=propext Iff.rfl
theorem Kc {f vs}:Qo Φ d f σ K vs=oN (purs σ.h vs) (clK Φ d f vs σ K) (dg Φ d f vs K σ):=propext Iff.rfl
theorem QA {f xs}:ae Φ d (.call f xs) K σ=oM (σ.evs xs) (Qo Φ d f σ K):=by
 simp only [ae,oM]
 cases σ.evs xs with
 | none=>rfl
 | some vs=>simp only [Qo,oN]; cases purs σ.h vs<;>rfl
def chK (Φ:Ctr) (d:Option Nat) (f:FuncId) (σ:St) (K:St→Prop) (vs:List V):Prop:=dg Φ d f vs K σ
theorem No {f vs}:chK Φ d f σ K vs=dg Φ d f vs K σ:=propext Iff.rfl
theorem Nz {f xs}:ae Φ d (.callH f xs) K σ=oM (σ.evs xs) (chK Φ d f σ K):=by
 simp only [ae,oM]
 cases σ.evs xs<;>rfl
def Om (σ:St) (g:AO) (xs:List AO):Option (V × List V × List V × St × Bool):=match σ.ev g,σ.evs xs with
 | some (.ref id _),some vs=>match σ.gh? id,purs σ.h vs with
   | some ((v,b)::l),some us=>some (v,us,vs,{ σ with h:=σ.h.set id (some (Ob.gh l)) },b)
   | _,_=>none
 | _,_=>none
def yldK (d:Option Nat) (K:St→Prop) (p:V × List V × List V × St × Bool):Prop:=p.1=.tup p.2.1∧aj p.2.2.1=[]∧K (p.2.2.2.1.put d (.bool p.2.2.2.2))
theorem HF {v:V} {us vs:List V} {τ:St} {b:Bool}:yldK d K (v,us,vs,τ,b)=(v=.tup us∧aj vs=[]∧K (τ.put d (.bool b))):=propext Iff.rfl
theorem a_yld {g xs}:ae Φ d (.yld g xs) K σ=oM (Om σ g xs) (yldK d K):=by
 simp only [ae,Om]
 cases σ.ev g with
 | none=>rfl
 | some u=>
   cases σ.evs xs with
   | none=>cases u<;>rfl
   | some vs=>
     cases u<;>try rfl
     rename_i id n
     simp only
     cases σ.gh? id with
     | none=>rfl
     | some l=>
       cases l with
       | nil=>rfl
       | cons x l=>
         obtain ⟨v,b⟩:=x
         cases purs σ.h vs<;>rfl
theorem QB {g xs}:af Φ d (.yld g xs) K σ=ae Φ d (.yld g xs) K σ:=propext Iff.rfl
def Mz (σ:St) (x:AO):Option (St × V):=match σ.ev x with
 | some (.str s)=>some ({ σ with h:=σ.h++[some (Ob.itr s 0)] },.ref σ.h.length 0)
 | _=>none
def PK (d:Option Nat) (K:St→Prop) (p:St × V):Prop:=K (p.1.put d p.2)
theorem IX {τ:St} {v:V}:PK d K (τ,v)=K (τ.put d v):=propext Iff.rfl
theorem N9 {x}:ae Φ d (.rgs x) K σ=oM (Mz σ x) (PK d K):=by
 simp only [ae,Mz]
 cases σ.ev x with
 | none=>rfl
 | some u=>cases u<;>rfl
theorem QJ {x}:af Φ d (.rgs x) K σ=ae Φ d (.rgs x) K σ:=propext Iff.rfl
def MI (σ:St) (x:AO):Option (St × V):=match σ.ev x with
 | some (.ref id _)=>match σ.itr? id with
   | some (s,p)=>some (if p < s.length then ({ σ with h:=σ.h.set id (some (Ob.itr s (p + (qj s p).2))) },.tup [.bool true,.int .i64 p,.int .i32 (qj s p).1]) else (σ,.tup [.bool false]))
   | none=>none
 | _=>none
theorem Oa {x}:ae Φ d (.nxs x) K σ=oM (MI σ x) (PK d K):=by
 simp only [ae,MI]
 cases σ.ev x with
 | none=>rfl
 | some u=>
   cases u<;>try rfl
   rename_i id n
   simp only
   cases σ.itr? id with
   | none=>rfl
   | some p=>
     obtain ⟨s,p⟩:=p
     simp only [oM]
     split<;>rfl
theorem QL {x}:af Φ d (.nxs x) K σ=ae Φ d (.nxs x) K σ:=propext Iff.rfl
def Hm (Φ:Ctr) (d:Option Nat) (f:FuncId) (vs:List V) (σ:St) (K:St→Prop) (us:List V):Prop:=kZ Φ d f vs us K σ
def Ke (Φ:Ctr) (d:Option Nat) (f:FuncId) (σ:St) (K:St→Prop) (vs:List V):Prop:=oM (purs σ.h vs) (Hm Φ d f vs σ K)
theorem Kd {f vs us}:Hm Φ d f vs σ K us=kZ Φ d f vs us K σ:=propext Iff.rfl
theorem Hl {f vs}:Ke Φ d f σ K vs=oM (purs σ.h vs) (Hm Φ d f vs σ K):=propext Iff.rfl
theorem ND {f xs}:af Φ d (.call f xs) K σ=oM (σ.evs xs) (Ke Φ d f σ K):=by
 simp only [af,oM]
 cases σ.evs xs with
 | none=>rfl
 | some vs=>simp only [Ke,oM]; cases purs σ.h vs<;>rfl
def fnV (σ:St) (g:AO) (xs:List AO):Option (FuncId × List V):=match σ.ev g,σ.evs xs with
 | some (.fn (.func f) a b),some vs=>some (f,a++vs++b)
 | _,_=>none
def cvK (Φ:Ctr) (d:Option Nat) (σ:St) (K:St→Prop) (p:FuncId × List V):Prop:=oN (purs σ.h p.2) (clK Φ d p.1 p.2 σ K) (dg Φ d p.1 p.2 K σ)
def JC (σ:St) (tbl:List (Nat × FuncId)) (x:AO) (xs:List AO):Option (FuncId × List V):=match σ.ev x,σ.evs xs with
 | some (.iface t v),some vs=>match lkF tbl t with
   | some f=>some (f,v::vs)
   | none=>none
 | _,_=>none
theorem a_inv {tbl x xs}:ae Φ d (.inv tbl x xs) K σ=oM (JC σ tbl x xs) (cvK Φ d σ K):=by
 simp only [ae,JC]
 cases σ.ev x with
 | none=>rfl
 | some a=>
   cases σ.evs xs with
   | none=>cases a<;>rfl
   | some vs=>
     cases a<;>try rfl
     rename_i t v
     simp only
     cases lkF tbl t with
     | none=>rfl
     | some f=>simp only [oM,cvK,oN]; cases purs σ.h (v::vs)<;>rfl
def ivK (Φ:Ctr) (d:Option Nat) (σ:St) (K:St→Prop) (p:FuncId × List V):Prop:=MW Φ d p.1 p.2 K σ
theorem a_ivp {tbl x xs}:ae Φ d (.ivp tbl x xs) K σ=oM (σ.ivpV tbl x xs) (ivK Φ d σ K):=by
 simp only [ae]
 cases σ.ivpV tbl x xs with
 | none=>rfl
 | some p=>rfl
theorem MX {f vs}:ivK Φ d σ K (f,vs)=oN (purs σ.h vs) (fun us=>jf Φ d f vs us K σ∨dg Φ d f vs K σ) (dg Φ d f vs K σ):=by
 simp only [ivK,MW,oN]
 cases purs σ.h vs<;>rfl
theorem Ni {f vs}:cvK Φ d σ K (f,vs)=oN (purs σ.h vs) (clK Φ d f vs σ K) (dg Φ d f vs K σ):=propext Iff.rfl
theorem Ny {g xs}:ae Φ d (.callv g xs) K σ=oM (fnV σ g xs) (cvK Φ d σ K):=by
 simp only [ae,fnV,oM]
 cases σ.ev g with
 | none=>rfl
 | some v=>
   cases v with
   | fn f a b=>
     cases f<;>cases σ.evs xs<;>try rfl
     rename_i vs
     simp only [cvK,oN]
     cases purs σ.h (a++vs++b)<;>rfl
   | _=>rfl
theorem Q1 {tbl x xs}:af Φ d (.inv tbl x xs) K σ=oM (JC σ tbl x xs) (fun p=>oM (purs σ.h p.2) (Hm Φ d p.1 p.2 σ K)):=by
 simp only [af,JC]
 cases σ.ev x with
 | none=>rfl
 | some a=>
   cases σ.evs xs with
   | none=>cases a<;>rfl
   | some vs=>
     cases a<;>try rfl
     rename_i t v
     simp only
     cases lkF tbl t with
     | none=>rfl
     | some f=>simp only [oM]; cases purs σ.h (v::vs)<;>rfl
def Qk (Φ:Ctr) (d:Option Nat) (σ:St) (K:St→Prop) (p:FuncId × List V):Prop:=oM (purs σ.h p.2) (Hm Φ d p.1 p.2 σ K)
theorem J7 {f vs}:Qk Φ d σ K (f,vs)=oM (purs σ.h vs) (Hm Φ d f vs σ K):=propext Iff.rfl
theorem KD {g xs}:af Φ d (.callv g xs) K σ=oM (fnV σ g xs) (Qk Φ d σ K):=by
 simp only [af,fnV,oM]
 cases σ.ev g with
 | none=>rfl
 | some v=>
   cases v with
   | fn f a b=>
     cases f<;>cases σ.evs xs<;>try rfl
     rename_i vs
     simp only [Qk,oM]
     cases purs σ.h (a++vs++b)<;>rfl
   | _=>rfl
end
def IZ (post:V→Prop) (us:List V):Prop:=post (eh us)
theorem IY {post:V→Prop} {us:List V}:IZ post us=post (eh us):=propext Iff.rfl
def Bw (post:V→Prop) (σ:St) (vs:List V):Prop:=oM (purs σ.h vs) (IZ post)
theorem Gm {post:V→Prop} {σ:St} {vs:List V}:Bw post σ vs=oM (purs σ.h vs) (IZ post):=propext Iff.rfl
theorem KH {rs:List RV} {post:V→Prop} {σ:St}:Res rs post .norm σ=oM (σ.rvs rs) (Bw post σ):=by
 unfold Res Bw oM
 cases σ.rvs rs with
 | none=>simp
 | some vs=>simp only; cases purs σ.h vs<;>simp [IZ]
theorem NJ {rs:List RV} {post:V→Prop} {σ:St}:Res rs post .ret σ=oM (σ.rvs rs) (Bw post σ):=by
 unfold Res Bw oM
 cases σ.rvs rs with
 | none=>simp
 | some vs=>simp only; cases purs σ.h vs<;>simp [IZ]
def By (σ:St) (ps:List Nat) (us:List V) (r:V) (H':List (Option Ob)) (vs:List V):Prop:=Bx σ ps us r H' vs (ct σ.h (pz (pk σ.r ps)) vs).2
theorem Gn {σ:St} {ps:List Nat} {us:List V} {r:V} {H':List (Option Ob)} {vs:List V}:By σ ps us r H' vs=Bx σ ps us r H' vs (ct σ.h (pz (pk σ.r ps)) vs).2:=propext Iff.rfl
theorem HC {rs:List RV} {σ:St} {ps:List Nat} {us:List V} {r:V} {H':List (Option Ob)}:AZ rs ps us r H' .norm σ=oM (σ.rvs rs) (By σ ps us r H'):=by
 unfold AZ oM
 cases σ.rvs rs<;>simp [By]
theorem KM {rs:List RV} {σ:St} {ps:List Nat} {us:List V} {r:V} {H':List (Option Ob)}:AZ rs ps us r H' .ret σ=oM (σ.rvs rs) (By σ ps us r H'):=by
 unfold AZ oM
 cases σ.rvs rs<;>simp [By]
section
variable {Φ:Ctr} {σ:St} {K:St→Prop} {d:Option Nat}
def Qb (σ:St) (d:Option Nat) (K:St→Prop) (q:Nat) (m:List Nat) (r:V) (H':List (Option Ob)):Prop:=K (St.put ⟨σ.r,σ.back q m H'⟩ d (bck (rm q m σ.h.length H'.length) r))
theorem JL {q:Nat} {m:List Nat} {r:V} {H':List (Option Ob)}:Qb σ d K q m r H'=K (St.put ⟨σ.r,σ.back q m H'⟩ d (bck (rm q m σ.h.length H'.length) r)):=propext Iff.rfl
theorem aS (ps:List Nat) (q:Nat) (m:List Nat) {f:FuncId} {vs us:List V} {H H':List (Option Ob)} {r:V} (hc:σ.curs (aY vs ps)=true) (hl:ct σ.h (aY vs ps) vs=(q,m)) (hu:di m vs=us) (hH:eD σ.h m m=H)
 (h:Φ.e f ps us H r H') (hk:kin q H H'=true) (k:ok r→okH H'→Qb σ d K q m r H'):dg Φ d f vs K σ:=by
 refine .inl ⟨ps,hc,r,H',?_,?_,?_⟩
 · rw [hl,hH]; exact hk
 · rw [hl,hu,hH]; exact h
 · rw [hl]; exact k
theorem xO (ps:List Nat) (q:Nat) (m:List Nat) {f:FuncId} {vs us:List V} {H:List (Option Ob)} {Z:V→List (Option Ob)→Prop} (hc:σ.curs (aY vs ps)=true) (hl:ct σ.h (aY vs ps) vs=(q,m)) (hu:di m vs=us) (hH:eD σ.h m m=H)
 (h:Φ.x f ps us H Z) (k:∀ r H',Z r H'→kin q H H'=true∧(ok r→okH H'→Qb σ d K q m r H')):dg Φ d f vs K σ:=by
 refine .inr (.inr (.inr ⟨ps,Z,hc,?_,?_⟩))
 · rw [hl,hu,hH]; exact h
 · rw [hl,hH]; exact k
end
def Bv (r:V) (us:List V):Prop:=eh us=r
theorem Gl {r:V} {us:List V}:Bv r us=(eh us=r):=propext Iff.rfl
def t8 (r:V) (σ:St) (vs:List V):Prop:=uZ σ.h vs=true∧oM (purs σ.h vs) (Bv r)
theorem DU {r:V} {σ:St} {vs:List V}:t8 r σ vs=(uZ σ.h vs=true∧oM (purs σ.h vs) (Bv r)):=propext Iff.rfl
theorem HB {rs:List RV} {r:V} {σ:St}:AY rs r .norm σ=oM (σ.rvs rs) (t8 r σ):=by
 unfold AY t8 oM
 cases σ.rvs rs with
 | none=>simp
 | some vs=>simp only; cases purs σ.h vs<;>simp [Bv]
theorem KL {rs:List RV} {r:V} {σ:St}:AY rs r .ret σ=oM (σ.rvs rs) (t8 r σ):=by
 unfold AY t8 oM
 cases σ.rvs rs with
 | none=>simp
 | some vs=>simp only; cases purs σ.h vs<;>simp [Bv]
theorem tupV0:eh []=.tup []:=rfl
theorem tupV1 {v:V}:eh [v]=v:=rfl
theorem tupV2 {v w:V} {l:List V}:eh (v::w::l)=.tup (v::w::l):=rfl
theorem Px {cs}:obI (some (some (.box cs)))=aj cs:=by simp only [obI]
theorem Ps {m} {cs}:bh m (some (.box cs))=some (.box (di m cs)):=by simp only [bh]
theorem PF {m} {cs}:cu m (some (.box cs))=some (.box (jd m cs)):=by simp only [cu]
theorem Py {e sz l}:obI (some (some (.arr e sz l)))=[]:=by simp only [obI]
theorem Pt {m} {e sz l}:bh m (some (.arr e sz l))=some (.arr e sz l):=by simp only [bh]
theorem PG {m} {e sz l}:cu m (some (.arr e sz l))=some (.arr e sz l):=by simp only [cu]
theorem Pv {e e2 sz l}:obI (some (some (.mat e e2 sz l)))=[]:=by simp only [obI]
theorem Pq {m} {e e2 sz l}:bh m (some (.mat e e2 sz l))=some (.mat e e2 sz l):=by simp only [bh]
theorem PD {m} {e e2 sz l}:cu m (some (.mat e e2 sz l))=some (.mat e e2 sz l):=by simp only [cu]
theorem so_mp {kt l}:obI (some (some (.mp kt l)))=[]:=by simp only [obI]
theorem sr_mp {m} {kt l}:bh m (some (.mp kt l))=some (.mp kt l):=by simp only [bh]
theorem sb_mp {m} {kt l}:cu m (some (.mp kt l))=some (.mp kt l):=by simp only [cu]
theorem so_gh {l}:obI (some (some (.gh l)))=[]:=by simp only [obI]
theorem sr_gh {m} {l}:bh m (some (.gh l))=some (.gh l):=by simp only [bh]
theorem sb_gh {m} {l}:cu m (some (.gh l))=some (.gh l):=by simp only [cu]
theorem Pw {s p}:obI (some (some (.itr s p)))=[]:=by simp only [obI]
theorem Pr {m} {s p}:bh m (some (.itr s p))=some (.itr s p):=by simp only [bh]
theorem PE {m} {s p}:cu m (some (.itr s p))=some (.itr s p):=by simp only [cu]
theorem Pu {c}:obI (some (some (.tok c)))=[]:=by simp only [obI]
theorem Pp {m} {c}:bh m (some (.tok c))=some (.tok c):=by simp only [bh]
theorem PC {m} {c}:cu m (some (.tok c))=some (.tok c):=by simp only [cu]
theorem Mk {ms}:obI (some (some (.pool ms)))=[]:=by simp only [obI]
theorem Mj {m} {ms}:bh m (some (.pool ms))=some (.pool ms):=by simp only [bh]
theorem Mu {m} {ms}:cu m (some (.pool ms))=some (.pool ms):=by simp only [cu]
theorem Ml:obI none=[]:=by simp only [obI]
theorem so_no:obI (some none)=[]:=by simp only [obI]
theorem sr_no {m}:bh m none=none:=by simp only [bh]
theorem sb_no {m}:cu m none=none:=by simp only [cu]
attribute [simp] FQ HI DA Jh NE NH Ro F8 zW GM Jz GO GN Rl Rn NG NF Rm FL Rp W_ret NI xT F9 Iw zU Cb pP Dy y7 BrK_t BrK_f BrK_n rqK_t IR MG MH Np M7 JM Qe Ka Ms I4 Ii FT wop_n Ik FU DB OY DC Ip FY Ko IK Ju GD GE Eb Kx Jl Jo Jn Pz ID Gd Mo Mp tZ IC Fh a_mkm a_yld QB HF N9 QJ Oa QL IX a_mkp QS QO a_mup a_inv Q1 a_ivp MX St.ivpV St.recv lkG GZ GY Nn Kc Kd Hl Ni J7 IY Gm ME MF No fz fzs Nz Gn HC KM JL Gl DU HB KL jk jks fre uZ a_mov Qx a_fld a_fa a_ia a_iaa a_ld a_ixs a_ixa a_bin a_un a_cii a_r2s a_b2s a_sls a_slq Qy Qz a_beq a_ext a_bld a_mkf a_nlc a_mki a_tya QE a_aeq a_lkp a_mm a_nlq QP NA Q3 aD_fa aD_ia Q2 aD_ld QZ Q0 Rb aD_un Q7 QK Rd QF QG NB NC Rc Q4 Ra QV QN QU Rk QX aD_mm QM Ri Q9 aD_st KF QQ QW QT QI a_alc a_box a_st a_s2b a_lit Oi a_mks a_mk0 QA Ny QY ND KD Qs stV Pm Nt D7 fnV P1 JC Om St.gh? Mz MI St.itr? lkF KH NJ tupV0 tupV1 tupV2 St.ev St.evs St.evo St.val St.put lk pk St.fetch St.box? St.arr? St.rws? St.mp? cut fY cl mkc L3 O3 St.live St.fwd St.stor St.storM St.kill bldV isS nt dO c6 aw aj pur purs pur1 pur2 src sf qP aM bO fd St.isNilM Ff St.hide St.nowR St.nrm DT Px Ps PF Py Pt PG Pv Pq PD so_mp sr_mp sb_mp so_gh sr_gh sb_gh Pw Pr PE Pu Pp PC Mk Mj Mu Ml so_no sr_no sb_no pX vP ren di eD bH idx St.mats St.mat ent St.rv St.rvs ok oks okH aY St.cur St.curA St.cur0 St.curs ct bck jd AT wr rm St.back Bx pz yj kin jl cL St.pl? St.setP low lE vM IB Dk Dl Dn tG mn Hz PT Nw Ok Rh xJ Of Q8 Nh Dd Oe Q6 MK Jm Oc QR Fr GB B3 DJ Bg Nq Ku Og Re Mt II N8 QH Kv Kw vC Ns Nr vD Bl Oh Rf Oj Rg KA Ol Rj It N6 QD DI Is N5 QC J4 J5 Od Q5 sP
theorem nW (n:Int) (h1:-9223372036854775808≤n) (h2:n≤9223372036854775807):IntKind.i64.wrap n=n:=by
 rw [Go.IntKind.wrap_i64]; omega
theorem max64:IntKind.i64.max=9223372036854775807:=by decide
theorem min64:IntKind.i64.min=-9223372036854775808:=by decide
theorem maxU8:IntKind.u8.max=255:=by decide
theorem minU8:IntKind.u8.min=0:=by decide
theorem ze (n:Int) (h1:0≤n) (h2:n≤255):IntKind.u8.wrap n=n:=by
 rw [Go.IntKind.wrap_u8]; omega
theorem oU (n:Int) (h1:-2147483648≤n) (h2:n≤2147483647):IntKind.i32.wrap n=n:=by
 rw [Go.IntKind.wrap_i32]; omega
theorem Pd {a b:Int} (h1:-9223372036854775808≤a + b) (h2:a + b≤9223372036854775807):cI .add .i64 a b=some (.int .i64 (a + b)):=by simp only [cI,nW _ h1 h2]
theorem O1 {a b:Int} (h1:-9223372036854775808≤a - b) (h2:a - b≤9223372036854775807):cI .sub .i64 a b=some (.int .i64 (a - b)):=by simp only [cI,nW _ h1 h2]
theorem O7 {a b:Int} (h1:-9223372036854775808≤a * b) (h2:a * b≤9223372036854775807):cI .mul .i64 a b=some (.int .i64 (a * b)):=by simp only [cI,nW _ h1 h2]
theorem vadd8 {a b:Int} (h1:0≤a + b) (h2:a + b≤255):cI .add .u8 a b=some (.int .u8 (a + b)):=by simp only [cI,ze _ h1 h2]
theorem vsub8 {a b:Int} (h1:0≤a - b) (h2:a - b≤255):cI .sub .u8 a b=some (.int .u8 (a - b)):=by simp only [cI,ze _ h1 h2]
theorem Pe {a b:Int} (h1:-2147483648≤a + b) (h2:a + b≤2147483647):cI .add .i32 a b=some (.int .i32 (a + b)):=by simp only [cI,oU _ h1 h2]
theorem O2 {a b:Int} (h1:-2147483648≤a - b) (h2:a - b≤2147483647):cI .sub .i32 a b=some (.int .i32 (a - b)):=by simp only [cI,oU _ h1 h2]
theorem O8 {a b:Int} (h1:-2147483648≤a * b) (h2:a * b≤2147483647):cI .mul .i32 a b=some (.int .i32 (a * b)):=by simp only [cI,oU _ h1 h2]
theorem Pa {n:Int} (h1:-9223372036854775808≤n) (h2:n≤9223372036854775807):zi .i64 n=some (.int .i64 n):=by simp only [zi,nW _ h1 h2]
theorem vcii8 {n:Int} (h1:0≤n) (h2:n≤255):zi .u8 n=some (.int .u8 n):=by simp only [zi,ze _ h1 h2]
theorem L0 {n:Int} (h1:0≤n) (h2:n < 128):L1 n=some (.str [UInt8.ofNat n.toNat]):=by simp only [L1,if_pos (And.intro h1 h2)]
theorem Pb {n:Int} (h1:-2147483648≤n) (h2:n≤2147483647):zi .i32 n=some (.int .i32 n):=by simp only [zi,oU _ h1 h2]
theorem O6 {n:Int} (h1:-9223372036854775808≤0 - n) (h2:0 - n≤9223372036854775807):vun .neg (.int .i64 n)=some (.int .i64 (0 - n)):=by simp only [vun,nW _ h1 h2]
attribute [simp high] Pd O1 O7 vadd8 vsub8 Pe O2 O8 Pa vcii8 Pb L0 O6
theorem O5 {a b:Int} (h0:0≤a) (h1:0 < b) (h2:a≤9223372036854775807):cI .quo .i64 a b=some (.int .i64 (a / b)):=by
 have h3:0≤a / b:=Int.ediv_nonneg h0 (by omega)
 have h4:a / b≤a:=Int.ediv_le_self _ h0
 simp only [cI]
 rw [if_neg (by omega),Int.tdiv_eq_ediv_of_nonneg h0,nW _ (by omega) (by omega)]
theorem O4 {k:IntKind} {a b:Int} (h0:0≤a) (h1:0 < b):cI .rem k a b=some (.int k (a % b)):=by
 simp only [cI]
 rw [if_neg (by omega),Int.tmod_eq_emod_of_nonneg h0]
theorem vremt {k:IntKind} {a b:Int} (h1:b≠0):cI .rem k a b=some (.int k (a.tmod b)):=by
 simp only [cI]
 rw [if_neg h1]
theorem veql {k:IntKind} {a b:Int}:cI .eql k a b=some (.bool (decide (a=b))):=rfl
theorem vneq {k:IntKind} {a b:Int}:cI .neq k a b=some (.bool (!decide (a=b))):=rfl
theorem vlss {k:IntKind} {a b:Int}:cI .lss k a b=some (.bool (decide (a < b))):=rfl
theorem vleq {k:IntKind} {a b:Int}:cI .leq k a b=some (.bool (decide (a≤b))):=rfl
theorem vgtr {k:IntKind} {a b:Int}:cI .gtr k a b=some (.bool (decide (b < a))):=rfl
theorem vgeq {k:IntKind} {a b:Int}:cI .geq k a b=some (.bool (decide (b≤a))):=rfl
theorem vnot {b:Bool}:vun .not (.bool b)=some (.bool !b):=rfl
attribute [simp high] O5 O4
attribute [simp] veql vneq vlss vleq vgtr vgeq vnot vremt nW ze oU max64 min64 maxU8 minU8
theorem PY (m n:Nat):((no_index (@OfNat.ofNat Int m instOfNat))≤(n:Int))↔(@OfNat.ofNat Nat m (instOfNatNat m))≤n:=Int.ofNat_le
theorem P7 (m n:Nat):((n:Int)≤(no_index (@OfNat.ofNat Int m instOfNat)))↔n≤(@OfNat.ofNat Nat m (instOfNatNat m)):=Int.ofNat_le
theorem PW (m n:Nat):((no_index (@OfNat.ofNat Int m instOfNat)) < (n:Int))↔(@OfNat.ofNat Nat m (instOfNatNat m)) < n:=Int.ofNat_lt
theorem P6 (m n:Nat):((n:Int) < (no_index (@OfNat.ofNat Int m instOfNat)))↔n < (@OfNat.ofNat Nat m (instOfNatNat m)):=Int.ofNat_lt
theorem PZ (m n:Nat):((no_index (@OfNat.ofNat Int m instOfNat))=(n:Int))↔(@OfNat.ofNat Nat m (instOfNatNat m))=n:=Int.ofNat_inj
theorem Qi (m n:Nat):((n:Int)=(no_index (@OfNat.ofNat Int m instOfNat)))↔n=(@OfNat.ofNat Nat m (instOfNatNat m)):=Int.ofNat_inj
attribute [simp] PY P7 PW P6 PZ Qi
theorem get0 {α:Type} {x:α} {l:List α}:(x::l)[0]?=some x:=rfl
attribute [simp] get0
theorem ite_t {p:Prop} [Decidable p] {α:Sort _} {a b:α} (h:p):(if p then a else b)=a:=if_pos h
theorem ite_f {p:Prop} [Decidable p] {α:Sort _} {a b:α} (h:¬p):(if p then a else b)=b:=if_neg h
attribute [simp] ite_t ite_f
theorem d9 {α:Type} {l:List α} {k:Nat} {x:α} (h:l[k]?=some x):l.drop k=x::l.drop (k + 1):=by
 obtain ⟨h1,h2⟩:=List.getElem?_eq_some_iff.1 h
 rw [List.drop_eq_getElem_cons h1,h2]
theorem fw {α:Type} {l:List α} {k:Nat} (h:k < l.length):∃ x,l[k]?=some x:=⟨_,List.getElem?_eq_getElem h⟩
theorem place {α:Type} (l:List α) (k:Nat) (h:k≤l.length):(k=l.length∧l.drop k=[])∨(k < l.length∧∃ x,l[k]?=some x∧l.drop k=x::l.drop (k + 1)):=by
 rcases Nat.lt_or_ge k l.length with h' | h'
 · obtain ⟨x,hx⟩:=fw h'
   exact .inr ⟨h',x,hx,d9 hx⟩
 · have:k=l.length:=by omega
   exact .inl ⟨this,by simp [this]⟩
def Hid (p:Prop):Prop:=p
theorem Hid.out {p:Prop} (h:Hid p):p:=h
theorem hid {p:Prop} (h:p):Hid p:=h
theorem Cn_p {P:Program}:(Cn P).p=Fn P:=rfl
theorem Cn_n {P:Program}:(Cn P).n=FnN P:=rfl
theorem Cn_e {P:Program}:(Cn P).e=FnH P:=rfl
def o1 (d:Nat) (a:Act'):AOp:=⟨some d,a,none⟩
def o0 (a:Act'):AOp:=⟨none,a,none⟩
def gt (t:Nat) (o:AOp):AOp:=⟨o.d,o.a,some (t,true)⟩
def gf (t:Nat) (o:AOp):AOp:=⟨o.d,o.a,some (t,false)⟩
def ts:List Nat→List AO
 | []=>[]
 | t::l=>.t t::ts l
def m (d x:Nat):AOp:=⟨some d,.mov (.t x),none⟩
def mv (d:Nat) (v:V):AOp:=⟨some d,.mov (.v v),none⟩
def mi (d:Nat) (n:Int):AOp:=⟨some d,.mov (.v (.int .i64 n)),none⟩
def mb (d:Nat) (b:Bool):AOp:=⟨some d,.mov (.v (.bool b)),none⟩
def bt (d:Nat) (op:BinOp) (x y:Nat):AOp:=⟨some d,.bin op (.t x) (.t y),none⟩
def bi (d:Nat) (op:BinOp) (x:Nat) (n:Int):AOp:=⟨some d,.bin op (.t x) (.v (.int .i64 n)),none⟩
def bu (d:Nat) (op:BinOp) (x:Nat) (n:Int):AOp:=⟨some d,.bin op (.t x) (.v (.int .u8 n)),none⟩
def bs (d:Nat) (op:BinOp) (x:Nat) (s:List UInt8):AOp:=⟨some d,.bin op (.t x) (.v (.str s)),none⟩
def nt' (d x:Nat):AOp:=⟨some d,.un .not (.t x),none⟩
def ls (d x:Nat):AOp:=⟨some d,.lens (.t x),none⟩
def lq (d x:Nat):AOp:=⟨some d,.lenq (.t x),none⟩
def fa (d x o:Nat):AOp:=⟨some d,.fa (.t x) o,none⟩
def fl (d x o:Nat):AOp:=⟨some d,.fld (.t x) o 1 false,none⟩
def l1 (d x:Nat):AOp:=⟨some d,.ld (.t x) 1 false,none⟩
def la (d x n:Nat):AOp:=⟨some d,.ld (.t x) n true,none⟩
def ia (d x i s:Nat):AOp:=⟨some d,.ia (.t x) (.t i) s,none⟩
def ix (d x i:Nat):AOp:=⟨some d,.ixs (.t x) (.t i),none⟩
def pa (d x y:Nat):AOp:=⟨some d,.pick (.t x) (.t y) (.v (.bool false)),none⟩
def po (d x y:Nat):AOp:=⟨some d,.pick (.t x) (.v (.bool true)) (.t y),none⟩
def ex (d x i:Nat):AOp:=⟨some d,.ext (.t x) i,none⟩
def bx (d x:Nat):AOp:=⟨some d,.box (.t x),none⟩
def st (n x y:Nat):AOp:=⟨none,.st n (.t x) (.t y),none⟩
def ca (d f:Nat) (l:List Nat):AOp:=⟨some d,.call f (ts l),none⟩
def ch (d f:Nat) (l:List Nat):AOp:=⟨some d,.callH f (ts l),none⟩
def cv (d g:Nat) (l:List Nat):AOp:=⟨some d,.callv (.t g) (ts l),none⟩
def Q:List AC→AC
 | []=>.skip
 | [a]=>a
 | a::l=>.seq a (Q l)
def OQ:List AOp→OT→OT
 | [],t=>t
 | x::xs,t=>.op x (OQ xs t)
def C (c:Nat) (a b:AC):AC:=.cond (.t c) a b
theorem OQ0 {t:OT}:OQ [] t=t:=rfl
theorem OQ1 {x:AOp} {xs:List AOp} {t:OT}:OQ (x::xs) t=.op x (OQ xs t):=rfl
attribute [simp] OQ0 OQ1
section
variable {Φ:Ctr} {K:St→Prop} {σ:St} {Q':Ex→St→Prop}
theorem Oy {d:Nat} {a:Act'}:wop Φ (o1 d a) K σ=ae Φ (some d) (a) K σ:=propext Iff.rfl
theorem Lx {d:Nat} {a:Act'}:aF Φ (o1 d a) K σ=af Φ (some d) (a) K σ:=propext Iff.rfl
theorem Oz {a:Act'}:wop Φ (o0 a) K σ=ae Φ (none) (a) K σ:=propext Iff.rfl
theorem Ly {a:Act'}:aF Φ (o0 a) K σ=af Φ (none) (a) K σ:=propext Iff.rfl
theorem wop_m {d x:Nat}:wop Φ (m d x) K σ=ae Φ (some d) (.mov (.t x)) K σ:=propext Iff.rfl
theorem OZ {d x:Nat}:aF Φ (m d x) K σ=af Φ (some d) (.mov (.t x)) K σ:=propext Iff.rfl
theorem OA {d:Nat} {v:V}:wop Φ (mv d v) K σ=ae Φ (some d) (.mov (.v v)) K σ:=propext Iff.rfl
theorem Lz {d:Nat} {v:V}:aF Φ (mv d v) K σ=af Φ (some d) (.mov (.v v)) K σ:=propext Iff.rfl
theorem OB {d:Nat} {n:Int}:wop Φ (mi d n) K σ=ae Φ (some d) (.mov (.v (.int .i64 n))) K σ:=propext Iff.rfl
theorem LA {d:Nat} {n:Int}:aF Φ (mi d n) K σ=af Φ (some d) (.mov (.v (.int .i64 n))) K σ:=propext Iff.rfl
theorem OC {d:Nat} {b:Bool}:wop Φ (mb d b) K σ=ae Φ (some d) (.mov (.v (.bool b))) K σ:=propext Iff.rfl
theorem LB {d:Nat} {b:Bool}:aF Φ (mb d b) K σ=af Φ (some d) (.mov (.v (.bool b))) K σ:=propext Iff.rfl
theorem OV {d:Nat} {op:BinOp} {x y:Nat}:wop Φ (bt d op x y) K σ=ae Φ (some d) (.bin op (.t x) (.t y)) K σ:=propext Iff.rfl
theorem LW {d:Nat} {op:BinOp} {x y:Nat}:aF Φ (bt d op x y) K σ=af Φ (some d) (.bin op (.t x) (.t y)) K σ:=propext Iff.rfl
theorem OX {d:Nat} {op:BinOp} {x:Nat} {n:Int}:wop Φ (bi d op x n) K σ=ae Φ (some d) (.bin op (.t x) (.v (.int .i64 n))) K σ:=propext Iff.rfl
theorem LY {d:Nat} {op:BinOp} {x:Nat} {n:Int}:aF Φ (bi d op x n) K σ=af Φ (some d) (.bin op (.t x) (.v (.int .i64 n))) K σ:=propext Iff.rfl
theorem OU {d:Nat} {op:BinOp} {x:Nat} {n:Int}:wop Φ (bu d op x n) K σ=ae Φ (some d) (.bin op (.t x) (.v (.int .u8 n))) K σ:=propext Iff.rfl
theorem LU {d:Nat} {op:BinOp} {x:Nat} {n:Int}:aF Φ (bu d op x n) K σ=af Φ (some d) (.bin op (.t x) (.v (.int .u8 n))) K σ:=propext Iff.rfl
theorem OW {d:Nat} {op:BinOp} {x:Nat} {s:List UInt8}:wop Φ (bs d op x s) K σ=ae Φ (some d) (.bin op (.t x) (.v (.str s))) K σ:=propext Iff.rfl
theorem LX {d:Nat} {op:BinOp} {x:Nat} {s:List UInt8}:aF Φ (bs d op x s) K σ=af Φ (some d) (.bin op (.t x) (.v (.str s))) K σ:=propext Iff.rfl
theorem Ls {d x:Nat}:wop Φ (nt' d x) K σ=ae Φ (some d) (.un .not (.t x)) K σ:=propext Iff.rfl
theorem Im {d x:Nat}:aF Φ (nt' d x) K σ=af Φ (some d) (.un .not (.t x)) K σ:=propext Iff.rfl
theorem OD {d x:Nat}:wop Φ (ls d x) K σ=ae Φ (some d) (.lens (.t x)) K σ:=propext Iff.rfl
theorem LD {d x:Nat}:aF Φ (ls d x) K σ=af Φ (some d) (.lens (.t x)) K σ:=propext Iff.rfl
theorem OE {d x:Nat}:wop Φ (lq d x) K σ=ae Φ (some d) (.lenq (.t x)) K σ:=propext Iff.rfl
theorem LF {d x:Nat}:aF Φ (lq d x) K σ=af Φ (some d) (.lenq (.t x)) K σ:=propext Iff.rfl
theorem OM {d x o:Nat}:wop Φ (fa d x o) K σ=ae Φ (some d) (.fa (.t x) o) K σ:=propext Iff.rfl
theorem LN {d x o:Nat}:aF Φ (fa d x o) K σ=af Φ (some d) (.fa (.t x) o) K σ:=propext Iff.rfl
theorem OL {d x o:Nat}:wop Φ (fl d x o) K σ=ae Φ (some d) (.fld (.t x) o 1 false) K σ:=propext Iff.rfl
theorem LM {d x o:Nat}:aF Φ (fl d x o) K σ=af Φ (some d) (.fld (.t x) o 1 false) K σ:=propext Iff.rfl
theorem OG {d x:Nat}:wop Φ (l1 d x) K σ=ae Φ (some d) (.ld (.t x) 1 false) K σ:=propext Iff.rfl
theorem LH {d x:Nat}:aF Φ (l1 d x) K σ=af Φ (some d) (.ld (.t x) 1 false) K σ:=propext Iff.rfl
theorem OF {d x n:Nat}:wop Φ (la d x n) K σ=ae Φ (some d) (.ld (.t x) n true) K σ:=propext Iff.rfl
theorem LG {d x n:Nat}:aF Φ (la d x n) K σ=af Φ (some d) (.ld (.t x) n true) K σ:=propext Iff.rfl
theorem OI {d x i s:Nat}:wop Φ (ia d x i s) K σ=ae Φ (some d) (.ia (.t x) (.t i) s) K σ:=propext Iff.rfl
theorem LJ {d x i s:Nat}:aF Φ (ia d x i s) K σ=af Φ (some d) (.ia (.t x) (.t i) s) K σ:=propext Iff.rfl
theorem OH {d x i:Nat}:wop Φ (ix d x i) K σ=ae Φ (some d) (.ixs (.t x) (.t i)) K σ:=propext Iff.rfl
theorem LI {d x i:Nat}:aF Φ (ix d x i) K σ=af Φ (some d) (.ixs (.t x) (.t i)) K σ:=propext Iff.rfl
theorem Ox {d x y:Nat}:wop Φ (pa d x y) K σ=ae Φ (some d) (.pick (.t x) (.t y) (.v (.bool false))) K σ:=propext Iff.rfl
theorem Lw {d x y:Nat}:aF Φ (pa d x y) K σ=af Φ (some d) (.pick (.t x) (.t y) (.v (.bool false))) K σ:=propext Iff.rfl
theorem Ow {d x y:Nat}:wop Φ (po d x y) K σ=ae Φ (some d) (.pick (.t x) (.v (.bool true)) (.t y)) K σ:=propext Iff.rfl
theorem Lv {d x y:Nat}:aF Φ (po d x y) K σ=af Φ (some d) (.pick (.t x) (.v (.bool true)) (.t y)) K σ:=propext Iff.rfl
theorem ON {d x i:Nat}:wop Φ (ex d x i) K σ=ae Φ (some d) (.ext (.t x) i) K σ:=propext Iff.rfl
theorem LP {d x i:Nat}:aF Φ (ex d x i) K σ=af Φ (some d) (.ext (.t x) i) K σ:=propext Iff.rfl
theorem OS {d x:Nat}:wop Φ (bx d x) K σ=ae Φ (some d) (.box (.t x)) K σ:=propext Iff.rfl
theorem LT {d x:Nat}:aF Φ (bx d x) K σ=af Φ (some d) (.box (.t x)) K σ:=propext Iff.rfl
theorem Ov {n x y:Nat}:wop Φ (st n x y) K σ=ae Φ (none) (.st n (.t x) (.t y)) K σ:=propext Iff.rfl
theorem Lu {n x y:Nat}:aF Φ (st n x y) K σ=af Φ (none) (.st n (.t x) (.t y)) K σ:=propext Iff.rfl
theorem OR {d f:Nat} {l:List Nat}:wop Φ (ca d f l) K σ=ae Φ (some d) (.call f (ts l)) K σ:=propext Iff.rfl
theorem LS {d f:Nat} {l:List Nat}:aF Φ (ca d f l) K σ=af Φ (some d) (.call f (ts l)) K σ:=propext Iff.rfl
theorem OP {d f:Nat} {l:List Nat}:wop Φ (ch d f l) K σ=ae Φ (some d) (.callH f (ts l)) K σ:=propext Iff.rfl
theorem LR {d f:Nat} {l:List Nat}:aF Φ (ch d f l) K σ=af Φ (some d) (.callH f (ts l)) K σ:=propext Iff.rfl
theorem OO {d g:Nat} {l:List Nat}:wop Φ (cv d g l) K σ=ae Φ (some d) (.callv (.t g) (ts l)) K σ:=propext Iff.rfl
theorem LQ {d g:Nat} {l:List Nat}:aF Φ (cv d g l) K σ=af Φ (some d) (.callv (.t g) (ts l)) K σ:=propext Iff.rfl
def skO (o:AOp) (K:St→Prop) (σ:St):Prop:=K (σ.put o.d (.tup []))
theorem Mq {o:AOp}:skO o K σ=K (σ.put o.d (.tup [])):=propext Iff.rfl
def un (o:AOp):AOp:=⟨o.d,o.a,none⟩
theorem OJ {t:Nat} {o:AOp}:wop Φ (gt t o) K σ=gM (lk σ.r t) true (wop Φ (un o) K) (skO o K) σ:=by
 simp only [gt,Ik]; rfl
theorem OK {t:Nat} {o:AOp}:wop Φ (gf t o) K σ=gM (lk σ.r t) false (wop Φ (un o) K) (skO o K) σ:=by
 simp only [gf,Ik]; rfl
theorem LK {t:Nat} {o:AOp}:aF Φ (gt t o) K σ=gM (lk σ.r t) true (aF Φ (un o) K) (skO o K) σ:=by
 simp only [gt,DC]; rfl
theorem LL {t:Nat} {o:AOp}:aF Φ (gf t o) K σ=gM (lk σ.r t) false (aF Φ (un o) K) (skO o K) σ:=by
 simp only [gf,DC]; rfl
theorem K4 {d:Nat} {a:Act'}:wop Φ (un (o1 d a)) K σ=ae Φ (some d) (a) K σ:=propext Iff.rfl
theorem HQ {d:Nat} {a:Act'}:aF Φ (un (o1 d a)) K σ=af Φ (some d) (a) K σ:=propext Iff.rfl
theorem K5 {a:Act'}:wop Φ (un (o0 a)) K σ=ae Φ (none) (a) K σ:=propext Iff.rfl
theorem HS {a:Act'}:aF Φ (un (o0 a)) K σ=af Φ (none) (a) K σ:=propext Iff.rfl
theorem Ou {d x:Nat}:wop Φ (un (m d x)) K σ=ae Φ (some d) (.mov (.t x)) K σ:=propext Iff.rfl
theorem Lr {d x:Nat}:aF Φ (un (m d x)) K σ=af Φ (some d) (.mov (.t x)) K σ:=propext Iff.rfl
theorem K6 {d:Nat} {v:V}:wop Φ (un (mv d v)) K σ=ae Φ (some d) (.mov (.v v)) K σ:=propext Iff.rfl
theorem HT {d:Nat} {v:V}:aF Φ (un (mv d v)) K σ=af Φ (some d) (.mov (.v v)) K σ:=propext Iff.rfl
theorem K7 {d:Nat} {n:Int}:wop Φ (un (mi d n)) K σ=ae Φ (some d) (.mov (.v (.int .i64 n))) K σ:=propext Iff.rfl
theorem HU {d:Nat} {n:Int}:aF Φ (un (mi d n)) K σ=af Φ (some d) (.mov (.v (.int .i64 n))) K σ:=propext Iff.rfl
theorem K8 {d:Nat} {b:Bool}:wop Φ (un (mb d b)) K σ=ae Φ (some d) (.mov (.v (.bool b))) K σ:=propext Iff.rfl
theorem HV {d:Nat} {b:Bool}:aF Φ (un (mb d b)) K σ=af Φ (some d) (.mov (.v (.bool b))) K σ:=propext Iff.rfl
theorem Lo {d:Nat} {op:BinOp} {x y:Nat}:wop Φ (un (bt d op x y)) K σ=ae Φ (some d) (.bin op (.t x) (.t y)) K σ:=propext Iff.rfl
theorem If {d:Nat} {op:BinOp} {x y:Nat}:aF Φ (un (bt d op x y)) K σ=af Φ (some d) (.bin op (.t x) (.t y)) K σ:=propext Iff.rfl
theorem Lq {d:Nat} {op:BinOp} {x:Nat} {n:Int}:wop Φ (un (bi d op x n)) K σ=ae Φ (some d) (.bin op (.t x) (.v (.int .i64 n))) K σ:=propext Iff.rfl
theorem Ih {d:Nat} {op:BinOp} {x:Nat} {n:Int}:aF Φ (un (bi d op x n)) K σ=af Φ (some d) (.bin op (.t x) (.v (.int .i64 n))) K σ:=propext Iff.rfl
theorem Ln {d:Nat} {op:BinOp} {x:Nat} {n:Int}:wop Φ (un (bu d op x n)) K σ=ae Φ (some d) (.bin op (.t x) (.v (.int .u8 n))) K σ:=propext Iff.rfl
theorem Ie {d:Nat} {op:BinOp} {x:Nat} {n:Int}:aF Φ (un (bu d op x n)) K σ=af Φ (some d) (.bin op (.t x) (.v (.int .u8 n))) K σ:=propext Iff.rfl
theorem Lp {d:Nat} {op:BinOp} {x:Nat} {s:List UInt8}:wop Φ (un (bs d op x s)) K σ=ae Φ (some d) (.bin op (.t x) (.v (.str s))) K σ:=propext Iff.rfl
theorem Ig {d:Nat} {op:BinOp} {x:Nat} {s:List UInt8}:aF Φ (un (bs d op x s)) K σ=af Φ (some d) (.bin op (.t x) (.v (.str s))) K σ:=propext Iff.rfl
theorem HM {d x:Nat}:wop Φ (un (nt' d x)) K σ=ae Φ (some d) (.un .not (.t x)) K σ:=propext Iff.rfl
theorem FSk {d x:Nat}:aF Φ (un (nt' d x)) K σ=af Φ (some d) (.un .not (.t x)) K σ:=propext Iff.rfl
theorem K9 {d x:Nat}:wop Φ (un (ls d x)) K σ=ae Φ (some d) (.lens (.t x)) K σ:=propext Iff.rfl
theorem HW {d x:Nat}:aF Φ (un (ls d x)) K σ=af Φ (some d) (.lens (.t x)) K σ:=propext Iff.rfl
theorem La {d x:Nat}:wop Φ (un (lq d x)) K σ=ae Φ (some d) (.lenq (.t x)) K σ:=propext Iff.rfl
theorem HX {d x:Nat}:aF Φ (un (lq d x)) K σ=af Φ (some d) (.lenq (.t x)) K σ:=propext Iff.rfl
theorem Lh {d x o:Nat}:wop Φ (un (fa d x o)) K σ=ae Φ (some d) (.fa (.t x) o) K σ:=propext Iff.rfl
theorem H8 {d x o:Nat}:aF Φ (un (fa d x o)) K σ=af Φ (some d) (.fa (.t x) o) K σ:=propext Iff.rfl
theorem Lf {d x o:Nat}:wop Φ (un (fl d x o)) K σ=ae Φ (some d) (.fld (.t x) o 1 false) K σ:=propext Iff.rfl
theorem H7 {d x o:Nat}:aF Φ (un (fl d x o)) K σ=af Φ (some d) (.fld (.t x) o 1 false) K σ:=propext Iff.rfl
theorem Lc {d x:Nat}:wop Φ (un (l1 d x)) K σ=ae Φ (some d) (.ld (.t x) 1 false) K σ:=propext Iff.rfl
theorem HZ {d x:Nat}:aF Φ (un (l1 d x)) K σ=af Φ (some d) (.ld (.t x) 1 false) K σ:=propext Iff.rfl
theorem Lb {d x n:Nat}:wop Φ (un (la d x n)) K σ=ae Φ (some d) (.ld (.t x) n true) K σ:=propext Iff.rfl
theorem HY {d x n:Nat}:aF Φ (un (la d x n)) K σ=af Φ (some d) (.ld (.t x) n true) K σ:=propext Iff.rfl
theorem Le {d x i s:Nat}:wop Φ (un (ia d x i s)) K σ=ae Φ (some d) (.ia (.t x) (.t i) s) K σ:=propext Iff.rfl
theorem H6 {d x i s:Nat}:aF Φ (un (ia d x i s)) K σ=af Φ (some d) (.ia (.t x) (.t i) s) K σ:=propext Iff.rfl
theorem Ld {d x i:Nat}:wop Φ (un (ix d x i)) K σ=ae Φ (some d) (.ixs (.t x) (.t i)) K σ:=propext Iff.rfl
theorem H5 {d x i:Nat}:aF Φ (un (ix d x i)) K σ=af Φ (some d) (.ixs (.t x) (.t i)) K σ:=propext Iff.rfl
theorem K0 {d x y:Nat}:wop Φ (un (pa d x y)) K σ=ae Φ (some d) (.pick (.t x) (.t y) (.v (.bool false))) K σ:=propext Iff.rfl
theorem HP {d x y:Nat}:aF Φ (un (pa d x y)) K σ=af Φ (some d) (.pick (.t x) (.t y) (.v (.bool false))) K σ:=propext Iff.rfl
theorem KZ {d x y:Nat}:wop Φ (un (po d x y)) K σ=ae Φ (some d) (.pick (.t x) (.v (.bool true)) (.t y)) K σ:=propext Iff.rfl
theorem HO {d x y:Nat}:aF Φ (un (po d x y)) K σ=af Φ (some d) (.pick (.t x) (.v (.bool true)) (.t y)) K σ:=propext Iff.rfl
theorem Li {d x i:Nat}:wop Φ (un (ex d x i)) K σ=ae Φ (some d) (.ext (.t x) i) K σ:=propext Iff.rfl
theorem H9 {d x i:Nat}:aF Φ (un (ex d x i)) K σ=af Φ (some d) (.ext (.t x) i) K σ:=propext Iff.rfl
theorem Lm {d x:Nat}:wop Φ (un (bx d x)) K σ=ae Φ (some d) (.box (.t x)) K σ:=propext Iff.rfl
theorem Id {d x:Nat}:aF Φ (un (bx d x)) K σ=af Φ (some d) (.box (.t x)) K σ:=propext Iff.rfl
theorem KY {n x y:Nat}:wop Φ (un (st n x y)) K σ=ae Φ (none) (.st n (.t x) (.t y)) K σ:=propext Iff.rfl
theorem HN {n x y:Nat}:aF Φ (un (st n x y)) K σ=af Φ (none) (.st n (.t x) (.t y)) K σ:=propext Iff.rfl
theorem Ll {d f:Nat} {l:List Nat}:wop Φ (un (ca d f l)) K σ=ae Φ (some d) (.call f (ts l)) K σ:=propext Iff.rfl
theorem Ic {d f:Nat} {l:List Nat}:aF Φ (un (ca d f l)) K σ=af Φ (some d) (.call f (ts l)) K σ:=propext Iff.rfl
theorem Lk {d f:Nat} {l:List Nat}:wop Φ (un (ch d f l)) K σ=ae Φ (some d) (.callH f (ts l)) K σ:=propext Iff.rfl
theorem Ib {d f:Nat} {l:List Nat}:aF Φ (un (ch d f l)) K σ=af Φ (some d) (.callH f (ts l)) K σ:=propext Iff.rfl
theorem Lj {d g:Nat} {l:List Nat}:wop Φ (un (cv d g l)) K σ=ae Φ (some d) (.callv (.t g) (ts l)) K σ:=propext Iff.rfl
theorem Ia {d g:Nat} {l:List Nat}:aF Φ (un (cv d g l)) K σ=af Φ (some d) (.callv (.t g) (ts l)) K σ:=propext Iff.rfl
theorem d_o1 {d:Nat} {a:Act'}:(o1 d a).d=some d:=rfl
theorem d_o0 {a:Act'}:(o0 a).d=none:=rfl
theorem d_m {d x:Nat}:(m d x).d=some d:=rfl
theorem d_mv {d:Nat} {v:V}:(mv d v).d=some d:=rfl
theorem d_mi {d:Nat} {n:Int}:(mi d n).d=some d:=rfl
theorem d_mb {d:Nat} {b:Bool}:(mb d b).d=some d:=rfl
theorem d_bt {d:Nat} {op:BinOp} {x y:Nat}:(bt d op x y).d=some d:=rfl
theorem d_bi {d:Nat} {op:BinOp} {x:Nat} {n:Int}:(bi d op x n).d=some d:=rfl
theorem d_bu {d:Nat} {op:BinOp} {x:Nat} {n:Int}:(bu d op x n).d=some d:=rfl
theorem d_bs {d:Nat} {op:BinOp} {x:Nat} {s:List UInt8}:(bs d op x s).d=some d:=rfl
theorem d_ntp {d x:Nat}:(nt' d x).d=some d:=rfl
theorem d_ls {d x:Nat}:(ls d x).d=some d:=rfl
theorem d_lq {d x:Nat}:(lq d x).d=some d:=rfl
theorem d_fa {d x o:Nat}:(fa d x o).d=some d:=rfl
theorem d_fl {d x o:Nat}:(fl d x o).d=some d:=rfl
theorem d_l1 {d x:Nat}:(l1 d x).d=some d:=rfl
theorem d_la {d x n:Nat}:(la d x n).d=some d:=rfl
theorem d_ia {d x i s:Nat}:(ia d x i s).d=some d:=rfl
theorem d_ix {d x i:Nat}:(ix d x i).d=some d:=rfl
theorem d_pa {d x y:Nat}:(pa d x y).d=some d:=rfl
theorem d_po {d x y:Nat}:(po d x y).d=some d:=rfl
theorem d_ex {d x i:Nat}:(ex d x i).d=some d:=rfl
theorem d_bx {d x:Nat}:(bx d x).d=some d:=rfl
theorem d_st {n x y:Nat}:(st n x y).d=none:=rfl
theorem d_ca {d f:Nat} {l:List Nat}:(ca d f l).d=some d:=rfl
theorem d_ch {d f:Nat} {l:List Nat}:(ch d f l).d=some d:=rfl
theorem d_cv {d g:Nat} {l:List Nat}:(cv d g l).d=some d:=rfl
theorem d_un {o:AOp}:(un o).d=o.d:=rfl
theorem W_Q1 {a:AC}:W Φ (Q [a]) Q' σ=W Φ a Q' σ:=propext Iff.rfl
theorem W_Q2 {a b:AC} {l:List AC}:W Φ (Q (a::b::l)) Q' σ=W Φ a (Ex.then (W Φ (Q (b::l)) Q') Q') σ:=propext Iff.rfl
theorem W_C {c:Nat} {a b:AC}:W Φ (C c a b) Q' σ=cM (lk σ.r c) (W Φ a Q') (W Φ b Q') σ:=propext Iff.rfl
end
attribute [simp] Mq OJ OK LK LL W_Q1 W_Q2 W_C Oy Lx K4 HQ Oz Ly K5 HS wop_m OZ Ou Lr OA Lz K6 HT OB LA K7 HU OC LB K8 HV OV LW Lo If OX LY Lq Ih OU LU Ln Ie OW LX Lp Ig Ls Im HM FSk OD LD K9 HW OE LF La HX OM LN Lh H8 OL LM Lf H7 OG LH Lc HZ OF LG Lb HY OI LJ Le H6 OH LI Ld H5 Ox Lw K0 HP Ow Lv KZ HO ON LP Li H9 OS LT Lm Id Ov Lu KY HN OR LS Ll Ic OP LR Lk Ib OO LQ Lj Ia
attribute [simp] Cn_p Cn_n Cn_e ts d_o1 d_o0 d_m d_mv d_mi d_mb d_bt d_bi d_bu d_bs d_ntp d_ls d_lq d_fa d_fl d_l1 d_la d_ia d_ix d_pa d_po d_ex d_bx d_st d_ca d_ch d_cv d_un
end Go.Abs
end
section
namespace Go.Abs
open Go.RowKit
def E6 (rs:List RV) (r:V):Ex→St→Prop:=fun e σ=>(match e with
    | .exit _=>False
    | .goto _=>False
    | _=>True)∧match σ.rvs rs with
    | some vs=>∃ ms F ws,σ.pl?=some ms∧eV (frz ms F) vs=some ws∧eh ws=r
    | none=>False
section
variable {P:Program}
theorem FnE.of_WQ {f:FuncId} {fn:Func} {c:Code} {us:List V} {r:V} {x:AC} {rs:List RV} (hm:P.follows .mixedOrders=true) (hf:P.funcs[f]?=some fn) (hb:fn.body=some c)
 (hn:(fn.name == "runtime.NumGoroutine")=false) (hc:LC P fn.ntmps [] c x) (hr:qE P fn.results.toList=some rs) (hs:us.length≤fn.ntmps)
 (hW:oks us→W (Cn P) x (E6 rs r) ⟨ent 0 us,[some (.pool [])]⟩):FnE P f us r where
 call:=fun args w=>by
  unfold callFunc
  simp only [beq_eq_false_iff_ne,ne_eq] at hn
  simp [Sem.run_bind,hf,hb,hn]
 does:=fun M w cs hM hus=>by
  have hl:cs.size=us.length:=by have:=ax hus; simpa using this
  refine calls_of_wp hf hb ?_
  have H:Rel fn.ntmps M ⟨w.heap.size,fun _=>False,[],#[],w.heap.size,noJ,[],fun _ _ _ _ _ _=>False⟩ w ⟨fun _=>undef,fun _ _=>undef,fun _ _=>False,fun _=>none⟩ M ⟨ent 0 us,[some (.pool [])]⟩ { tmps:=cs++Array.replicate (fn.ntmps - cs.size) undef,defers:=[] } w:=
   { dfr:=rfl,jst:=jm rfl,pin:=fun i hi=>by cases hi
     size:=by simp; omega
     regs:=fun t v ht=>by
      obtain ⟨_,h2⟩:=q8 ht
      simp only [Nat.sub_zero] at h2
      have hlt:t < us.length:=(List.getElem?_eq_some_iff.1 h2).1
      obtain ⟨c,h3,h4⟩:=bN hus h2
      refine ⟨by omega,c,?_,ap (fun _ _ h=>h) (fun _ _ h=>h.elim) _ _ h4⟩
      rw [Array.getElem?_append_left (by omega)]
      simpa using h3
     heap:=fun id ob h=>by
      cases id with
      | succ id=>simp at h
      | zero=>
        simp at h
        subst h
        simp only [aB]
        exact ⟨trivial,fun j m hm=>by simp at hm,fun i j m m' g hm=>by simp at hm,fun g hg=>hg.elim,fun g=>⟨fun h=>h.elim,fun ⟨j,m,hm,_⟩=>by simp at hm⟩,fun k j n i off c h=>h.elim⟩
     inj:=fun i j oi oj g h h' hg=>hg.elim
     snd:=hM.snd
     sep:=fun p v _ id ob h hg=>hg
     sub:=⟨fun _ _ h=>h,fun _ _ h=>(by cases h),fun _ _ h=>(by cases h),Nat.le_refl _,hM.gl⟩
     new:=fun _ _ h=>.inl h
     base:=rfl
     blw:=Und.refl _ _ }
  refine oV (kn hm (jn rfl) (B:=⟨w.heap.size,fun _=>False,[],#[],w.heap.size,noJ,[],fun _ _ _ _ _ _=>False⟩) hc ?_ H (hW (cC hus)))
  intro e κ M1 σ a w1 hR H1
  simp only [E6] at hR
  obtain ⟨he,hR⟩:=hR
  split at hR
  · rename_i vs hvs
    obtain ⟨ms,F,ws,hms,hws,hR⟩:=hR
    · have hp:=bk hms
      obtain ⟨ds,k1,k2⟩:=fI hr H1 hvs
      obtain ⟨H2,hM1⟩:=H1.kill [0] (fun id hid=>by simp at hid; subst hid; exact ⟨_,hp⟩)
      have k3:ac (ext M1 w1 (gk κ [0])) NX ws ds:=CN H1 hp hM1 hws k1
      have fin:bodyPost P fn (fun e w'=>∃ (c:Value) (M':Mem),e=.returned c∧rep M' NX r c∧Below w.heap.size w w'∧(∀ p v,M' p=some v→w'.cell? p=some v)∧
       (∀ p v,M p=some v→M' p=some v)∧∀ p v,M' p=some v→M p=some v∨w.heap.size≤p.block) .normal a w1:=by
       refine ⟨H1.dfr,_,k2,_,_,rfl,?_,⟨H1.blw.os,H1.blw.tape,H1.blw.output,H1.blw.size,fun k hk=>H1.blw.block k hk id⟩,H2.snd,H2.sub.sub,fun p v h=>(H2.new p v h).imp_right fun h=>h.elim id False.elim⟩
       subst hR
       match ws,ds,k3 with
       | [],[],k3=>simp only [eh,rep]; exact ⟨#[],rfl,by simp [ac]⟩
       | [v],[d],k3=>
         simp only [ac] at k3
         obtain ⟨_,_,h1,h2,_⟩:=k3
         cases h1
         simpa [eh] using h2
       | v::v'::vs',d::d'::ds',k3=>
         have e:(if h:(d::d'::ds').length=1 then (d::d'::ds')[0] else .tuple (d::d'::ds').toArray)=.tuple (d::d'::ds').toArray:=dif_neg (by simp)
         rw [e]
         simp only [eh,rep]
         exact ⟨_,rfl,by simpa using k3⟩
       | [],d::ds,k3=>simp [ac] at k3
       | v::vs,[],k3=>simp [ac] at k3
       | [v],d::d'::ds,k3=>simp [ac] at k3
       | v::v'::vs,[d],k3=>
         simp only [ac] at k3
         obtain ⟨c,cs',h1,_,c2,cs2,h2,_⟩:=k3
         cases h1
         cases h2
      cases e with
      | norm=>exact fin
      | ret=>exact fin
      | exit id=>exact he.elim
      | goto l=>exact he.elim
  · exact hR.elim
theorem FnE.of_imageQ {f:FuncId} {fn:Func} {E:List Nat} {us:List V} {r:V} {x:AC} {K:List (List Nat)} {rs:List RV} {n:Nat} (hm:P.follows .mixedOrders=true) (hf:P.funcs[f]?=some fn)
 (hi:av P fn [] E K n=some (x,rs)) (hn:us.length=n) (hW:oks us→W (Cn P) x (E6 rs r) ⟨ent 0 us,[some (.pool [])]⟩):FnE P f us r:=by
 unfold av at hi
 split at hi
 · split at hi
   · split at hi
     · rename_i hc
       cases hi
       exact FnE.of_WQ hm hf ‹_› hc.1 (cY ‹_›) ‹_› (by rw [hn]; exact hc.2.1) hW
     · cases hi
   · cases hi
 · cases hi
end
def Fm (r:V) (σ:St) (vs:List V):Prop:=∃ ms F ws,σ.pl?=some ms∧eV (frz ms F) vs=some ws∧eh ws=r
theorem HA {rs:List RV} {r:V} {σ:St}:E6 rs r .norm σ=oM (σ.rvs rs) (Fm r σ):=by
 unfold E6 oM
 cases σ.rvs rs<;>simp [Fm]
theorem KJ {rs:List RV} {r:V} {σ:St}:E6 rs r .ret σ=oM (σ.rvs rs) (Fm r σ):=by
 unfold E6 oM
 cases σ.rvs rs<;>simp [Fm]
attribute [simp] HA KJ
end Go.Abs
end
