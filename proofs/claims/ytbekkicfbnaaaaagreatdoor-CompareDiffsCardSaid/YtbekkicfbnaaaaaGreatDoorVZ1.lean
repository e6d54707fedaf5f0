/- The library's functions that turn a row of texts in place (slices. No condition. -/
import Derived.Test.YtbekkicfbnaaaaaGreatDoorVAbs14
import Derived.Shelf.Sort.Plain
import Derived.Shelf.Slices.In.SortNone
import Derived.Shelf.Slices.CompactS
set_option linter.all false open Array renaming getElem?_eq_some_iff→zAa,getElem?_toList→zAb,getElem?_append_left→zAe,getElem?_modify→zAg
open List renaming replicate→zAc,getElem?_take→zAd,getElem?_map→zAf,mem_singleton→zAh,map_cons→zAi
open Nat renaming mul_one→zAj
set_option maxHeartbeats 1000000
set_option maxRecDepth 100000 open Option renaming some→ś
namespace Go.Abs
open Go.Proofs Go.RowKit Go.Sort
section
variable {P:Program}
theorem adb{bs s}(h:bs.data.toList=s):Value.string bs=encStr s:=by
 subst h;simp[encStr]
theorem vK{M}:∀{l:List (List UInt8)}{xs:List Value},aB M 1 (l.map V.str) xs->xs=l.map encStr/\∀s∈l,s.length<=4611686018427387904
 |[],_,h=>by grind[aB]
 |s::l,xs,h=>by
   simp only[zAi,aB]at h;obtain⟨y,rest,rfl,⟨bs,rfl,h1,h2⟩,_,_,h3⟩:=h;obtain⟨rfl,h4⟩:=vK h3;simp_all[Value.cells,adb,List.mem_cons]
theorem vr{M}:∀{l:List (List UInt8)},(∀s∈l,s.length<=4611686018427387904)->aB M 1 (l.map V.str) (l.map encStr)
 |[],_=>by simp[aB]
 |s::l,h=>by
   simp only[zAi,aB];refine⟨encStr s,l.map encStr,by simp[encStr,Value.cells],?_,by simp[encStr,Value.cells],?_,vr λt ht=>h t (by simp[ht])⟩
   ·simp_all[rep]
   ·intro u hu
    simp[encStr,Value.cells]at hu;subst hu;rfl
theorem za{l:List (List UInt8)}{cur}(h:l.length<=cur.size):(putCells encStr 0 l.toArray cur).toList.take l.length=l.map encStr:=by
 apply List.ext_getElem?;intro k;rw[zAd];by_cases hk:k<l.length
 ·rw[if_pos hk,zAb]
  grind[putCells]
 simp_all
theorem lw{l:List (List UInt8)}{cur}:(putCells encStr 0 l.toArray cur).size=cur.size:=by simp[putCells]
theorem F1{w g}{l:List (List UInt8)}{n os cur e}(h:w.heap[g]?=ś (.cells cur e (0,0))):
 (grow (putRow encStr (Sort.ahead w n) g 0 l.toArray) os).heap[g]?=ś (.cells (putCells encStr 0 l.toArray cur) e (0,0))/\
 (∀k,k<w.heap.size->k≠g->(grow (putRow encStr (Sort.ahead w n) g 0 l.toArray) os).heap[k]?=w.heap[k]?)/\w.heap.size<=(grow (putRow encStr (Sort.ahead w n) g 0 l.toArray) os).heap.size:=by
 have hlt:=(zAa.1 h).1;refine⟨?_,λk hk hne=>?_,?_⟩
 ·grind[grow,putRow,mapBlock,Sort.ahead,zAe,onCells]
 ·simp only[grow,putRow,mapBlock,Sort.ahead]
  grind
 simp
theorem FnH.of_row{f}{e:TypeId}{l l':List (List UInt8)}(hlen:l'.length=l.length)(hmem:∀s∈l',s∈l)(hcall:∀args w,(callFunc f args).run P w=.ok (.enter f args) w)
 (hnil:l=[]->∀(p:Option Addr)(cap:Nat)(w:World),Calls P f #[.slice p 0 cap] w λe w'=>e=.returned (.tuple #[])/\w'=w)
 (hdo:∀(g cap:Nat)(w:World),Holds encStr w g 0 l.toArray->g<w.heap.size->Calls P f #[.slice (ś ⟨g,0,none⟩) l.length cap] w λe w'=>e=.returned (.tuple #[])/\∃n os,w'=grow (putRow encStr (Sort.ahead w n) g 0 l'.toArray) os):
 FnH P f [0] [.ref 0 l.length] [ś (.arr e 1 (l.map .str))] (.tup []) [ś (.arr e 1 (l'.map .str))]:=by
 intro M w κ cs J hJC hH hus o a Nx Q hN;rw[hcall,Oper.upon_enter];obtain⟨cl⟩:=cs;simp only[af]at hus;obtain⟨c,cs',rfl,hc,rfl⟩:=hus;simp only[rep,XX]at hc;have hc0:c=κ 0:=(hc.2.2.1 e 1 _ rfl).2 (by simp)
 have ho:=hH.heap 0 _ rfl;simp only[bn]at ho;obtain⟨h1,h2,xs,hown,hrow,hbo,hbl⟩:=ho;obtain⟨rfl,hsl⟩:=vK hrow;rcases hown.2 with⟨hv0,h0⟩|⟨g,cap,cur,hv0,hg0,hcur,hle,hcap,hsz,htk⟩
 ·have hl:l=[]:=by simpa using h0
  have hl':l'=[]:=by simpa[hl]using hlen
  subst hl hl';rw[hc0,hv0];refine(hnil rfl none 0 w).mono ?_;rintro e' w' ⟨rfl,rfl⟩;refine hN (.tuple #[]) M w' κ (by simp[rep,af]) (Und.refl _ _) hH (λ_ _ h=>h) (λ_ _ h=>.inl h) ?_
  grind[zAh,rep,XX]
 ·have hlm:(l.map V.str).length=l.length:=by simp
  rw[hlm]at hle htk hv0;have hgl:=(zAa.1 hcur).1;have hbg:κ.bl 0 g:=(hbl g).2 (by rw[hv0];rfl)
  rw[hc0,hv0];refine(hdo g cap w ?_ hgl).mono ?_
  ·intro j hj
   simp at hj;have hj2:j<cur.size:=by omega
   have e1:cur[j]?=ś (encStr (l[j])):=by
    have:=congrArg (·[j]?) htk;grind
   grind[World.cell?,World.frozen?]
  ·rintro e' w' ⟨rfl,n,os,rfl⟩
   obtain⟨k1,k2,k3⟩:=F1 (l:=l') (n:=n) (os:=os) hcur;generalize hw':grow (putRow encStr (Sort.ahead w n) g 0 l'.toArray) os=w' at *;have hos:w'.os=w.os/\w'.tape=w.tape/\w'.output=w.output:=by rw[<-hw'];exact⟨rfl,rfl,rfl⟩
   have hU:Und (dR κ [ś (.arr e 1 (l.map .str))] w [0] ⟨[c]⟩ J) w w':=by
    refine⟨hos.1,hos.2.1,hos.2.2,k3,λk hk hns=>?_,λk cu T z hk=>?_⟩
    ·refine k2 k hk λe0=>hns ?_
     subst e0;exact⟨0,_,rfl,hbg⟩
    ·by_cases hkg:k=g
     ·grind[lw]
     grind
   have hcell:∀p v,M p=ś v->w'.cell? p=ś v:=by
    intro p v hp;have h5:=hH.snd p v hp;have hne:p.block≠g:=λe0=>hH.sep p v hp 0 _ rfl (by rw[e0];exact hbg)
    grind[World.block_lt_of_cell?,World.cell?]
   refine hN (.tuple #[]) M w' κ (by simp[rep,af]) hU ?_ (λ_ _ h=>h) (λ_ _ h=>.inl h) ?_
   ·refine{ heap:=λid ob hid=>?_,inj:=λi j oi oj g' hi hj _ _=>?_,snd:=hcell,sep:=λp v hp id ob hid=>?_,fmS:=hH.fmS,gl:=hH.gl,jst:=hH.jst }
    ·cases id with
     |zero=>
       simp at hid;subst hid;simp only[bn];refine⟨h1,by simpa[hlen]using h2,l'.map encStr,⟨by simp,.inr ⟨g,cap,_,by rw[hv0];simp[hlen],hg0,k1,by simp_all,hcap,by rw[lw];exact hsz,?_⟩⟩,vr λs hs=>hsl s (hmem s hs),hbo,hbl⟩
       grind[za]
     |succ id=>simp at hid
    ·grind
    ·have:id=0:=by grind
     subst this;exact hH.sep p v hp 0 _ rfl
   simp_all[zAh,rep,XX]
theorem FnH.of_cut{f}{e:TypeId}{l l'}(hlen:l'.length<=l.length)(hmem:∀s∈l',s∈l)(hcall:∀args w,(callFunc f args).run P w=.ok (.enter f args) w)
 (hnil:l=[]->∀(p:Option Addr)(cap:Nat)(w:World),Calls P f #[.slice p 0 cap] w λe w'=>e=.returned (.slice p 0 cap)/\w'=w)
 (hdo:∀(g cap:Nat)(w:World),Holds encStr w g 0 l.toArray->l.length<=cap->Calls P f #[.slice (ś ⟨g,0,none⟩) l.length cap] w λe w'=>e=.returned (.slice (ś ⟨g,0,none⟩) l'.length cap)/\∃n,w'=putRow encStr (Sort.ahead w n) g 0 (l'++zAc (l.length-l'.length) []).toArray):
 FnH P f [] [.ref 0 l.length] [ś (.arr e 1 (l.map .str))] (.ref 0 l'.length) [ś (.arr e 1 (l'.map .str))]:=by
 intro M w κ cs J hJC hH hus o a Nx Q hN;rw[hcall,Oper.upon_enter];obtain⟨cl⟩:=cs;simp only[af]at hus;obtain⟨c,cs',rfl,hc,rfl⟩:=hus;simp only[rep,XX]at hc;have hc0:c=κ 0:=(hc.2.2.1 e 1 _ rfl).2 (by simp)
 have ho:=hH.heap 0 _ rfl;simp only[bn]at ho;obtain⟨h1,h2,xs,hown,hrow,hbo,hbl⟩:=ho;obtain⟨rfl,hsl⟩:=vK hrow;rcases hown.2 with⟨hv0,h0⟩|⟨g,cap,cur,hv0,hg0,hcur,hle,hcap,hsz,htk⟩
 ·have hl:l=[]:=by simpa using h0
  have hl':l'=[]:=by simpa[hl]using hlen
  subst hl hl';rw[hc0,hv0];refine(hnil rfl none 0 w).mono ?_;rintro e' w' ⟨rfl,rfl⟩;refine hN (.slice none 0 0) M w' κ ?_ (Und.refl _ _) hH (λ_ _ h=>h) (λ_ _ h=>.inl h) (λi hi=>by cases hi)
  grind[rep,XX]
 ·have hlm:(l.map V.str).length=l.length:=by simp
  rw[hlm]at hle htk hv0;have hgl:=(zAa.1 hcur).1;have hbg:κ.bl 0 g:=(hbl g).2 (by rw[hv0];rfl)
  rw[hc0,hv0];refine(hdo g cap w ?_ hle).mono ?_
  ·intro j hj
   simp at hj;have hj2:j<cur.size:=by omega
   have e1:cur[j]?=ś (encStr (l[j])):=by
    have:=congrArg (·[j]?) htk;grind
   grind[World.cell?,World.frozen?]
  ·rintro e' w' ⟨rfl,n,hw'⟩
   obtain⟨k1,k2,k3⟩:=F1 (l:=l'++zAc (l.length-l'.length) []) (n:=n) (os:=#[]) hcur;rw[grow_empty,<-hw']at k1 k2 k3;have hos:w'.os=w.os/\w'.tape=w.tape/\w'.output=w.output:=by rw[hw'];exact⟨rfl,rfl,rfl⟩
   have hU:Und (dR κ [ś (.arr e 1 (l.map .str))] w [] ⟨[c]⟩ J) w w':=by
    refine⟨hos.1,hos.2.1,hos.2.2,k3,λk hk hns=>?_,λk cu T z hk=>?_⟩
    ·refine k2 k hk λe0=>hns ?_
     subst e0;exact⟨0,_,rfl,hbg⟩
    ·by_cases hkg:k=g
     ·grind[lw]
     grind
   have hcell:∀p v,M p=ś v->w'.cell? p=ś v:=by
    intro p v hp;have h5:=hH.snd p v hp;have hne:p.block≠g:=λe0=>hH.sep p v hp 0 _ rfl (by rw[e0];exact hbg)
    grind[World.block_lt_of_cell?,World.cell?]
   have hbl2:∀g',(upd κ 0 (.slice (ś ⟨g,0,none⟩) l'.length cap)).bl 0 g'↔κ.bl 0 g':=λg'=>by
    grind[dy,blk]
   have htk2:(putCells encStr 0 (l'++zAc (l.length-l'.length) []).toArray cur).toList.take l'.length=l'.map encStr:=by
    have:=za (l:=l'++zAc (l.length-l'.length) []) (cur:=cur) (by simp;omega)
    have h3:=congrArg (List.take l'.length) this;grind
   refine hN (.slice (ś ⟨g,0,none⟩) l'.length cap) M w' (upd κ 0 (.slice (ś ⟨g,0,none⟩) l'.length cap)) ?_ hU ?_ (λ_ _ h=>h) (λ_ _ h=>.inl h) (λi hi=>by cases hi)
   ·simp only[rep,XX]
    refine⟨rfl,by simp,λe2 sz2 l2 h=>?_,λ_ _ _ _ h=>by simp at h,λo h hn=>by simp at h;subst h;cases hn⟩
    simp at h;obtain⟨rfl,rfl,rfl⟩:=h;exact⟨by simp,λ_=>cq.symm⟩
   ·refine{ heap:=λid ob hid=>?_,inj:=λi j oi oj g' hi hj _ _=>?_,snd:=hcell,sep:=λp v hp id ob hid=>?_,fmS:=hH.fmS,gl:=hH.gl,jst:=hH.jst }
    ·cases id with
     |zero=>
       simp at hid;subst hid;simp only[bn];refine⟨h1,by simp at h2⊢;omega,l'.map encStr,⟨by simp,.inr ⟨g,cap,_,by rw[cq];simp,hg0,k1,by simp;omega,hcap,by rw[lw];exact hsz,by simpa using htk2⟩⟩,vr λs hs=>hsl s (hmem s hs),λg' hg'=>hbo g' ((hbl2 g').1 hg'),λg'=>?_⟩
       rw[hbl2,hbl,hv0,cq];rfl
     |succ id=>simp at hid
    ·grind
    ·have:id=0:=by grind
     subst this;rw[hbl2];exact hH.sep p v hp 0 _ rfl
end
end Go.Abs
