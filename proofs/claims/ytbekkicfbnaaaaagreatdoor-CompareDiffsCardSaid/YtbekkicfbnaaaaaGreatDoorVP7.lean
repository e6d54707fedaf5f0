/- Plain: texts sorted, each once. No condition. -/
import Derived.Test.YtbekkicfbnaaaaaGreatDoorVF1
import Derived.Lib.SlicesCompact
import Derived.Test.YtbekkicfbnaaaaaGreatDoorVZ1
import Derived.Test.YtbekkicfbnaaaaaGreatDoorVCodeC
import Derived.Shelf.Spec.SlicesGrow
set_option linter.all false open List renaming pairwise_cons→zAa,cons_append→zAb,filter_cons→zAc,filter_nil→zAd,mem_cons→zAe,map_nil→zAf,length→zAg
open Nat renaming zero_le→zAh open Option renaming some→ś open Go.Proofs.Tryz renaming prog→ŷ
section
set_option maxHeartbeats 4000000
set_option maxRecDepth 100000
namespace Go.Abs.F
open Go.Proofs
attribute [-simp] getElem?_pos Option.not_isSome List.map_map
def srt(l:List Str):List Str:=l.mergeSort λx y=>decide (x<=y)
theorem BX{l s}:s∈srt l↔s∈l:=List.mem_mergeSort
theorem fL(l):(srt l).length=l.length:=List.length_mergeSort _
def r6:Str->List Str->List Str
 |_,[]=>[]
 |p,y::l=>if y=p then r6 p l else y::r6 y l
def dd:List Str->List Str
 |[]=>[]
 |x::l=>x::r6 x l
theorem QC:∀(l:List Str)(p x:Str),r6 p (l++[x])=r6 p l++(if x=(p::l)[l.length]! then[]else[x])
 |[],p,x=>by grind[r6]
 |y::l,p,x=>by
   simp only[zAb,r6];have ih:=QC l y x;grind
theorem xm:∀(zs:List Str)(m:Nat),m<=zs.length->Lib.compactUpTo zs.toArray m=dd (zs.take m)
 |zs,0,_=>by simp[Lib.compactUpTo,dd]
 |zs,m+1,h=>by
   have ih:=xm zs m (by omega)
   obtain⟨x,hx⟩:=av (l:=zs) (k:=m) (by omega)
   have htk:zs.take (m+1)=zs.take m++[x]:=by grind[List.take_add_one]
   have hxm:zs.toArray[m]! = x:=by
    simp_all
   rw[htk];simp only[Lib.compactUpTo]at ih⊢;rw[List.range_succ,List.filter_append,List.map_append,ih];cases hm:zs.take m with
   |nil=>
     have hm0:m=0:=by
      have:=congrArg zAg hm;grind
     grind[dd,Lib.keeps,r6]
   |cons y l=>
     have hm0:0<m:=by
      grind
     have hl:l.length=m-1:=by
      have:=congrArg zAg hm;simp at this;omega
     have hlast:(y::l)[l.length]! = zs.toArray[m-1]!:=by
      grind
     simp only[zAb,dd,QC];rw[hlast]
     have hk:Lib.keeps zs.toArray m=decide (x≠zs.toArray[m-1]!):=by
      grind[Lib.keeps]
     grind
theorem ZT(zs):Lib.compact zs=dd zs:=by
 rw[Lib.compact,xm zs zs.length (Nat.le_refl _),List.take_length]
theorem Lu:∀(l:List Str)(p s:Str),s∈p::r6 p l↔s∈p::l
 |[],p,s=>by simp[r6]
 |y::l,p,s=>by
   simp only[r6];by_cases h:y=p
   ·subst h
    simp only[if_true];rw[Lu l y s];simp
   ·simp only[if_neg h]
    have:=Lu l y s;simp only[zAe]at this⊢;rw[this]
theorem ZS{l s}:s∈dd l↔s∈l:=by
 cases l with
 |nil=>simp[dd]
 |cons x l=>exact Lu l x s
def sd(l:List Str):List Str:=dd (srt l)
end Go.Abs.F
end
section
set_option maxHeartbeats 4000000
set_option maxRecDepth 100000
namespace Go.Abs.F
open Go.Proofs Go.RowKit Go.Sort
def aeW:Go.Shelf.Ren:=⟨λx=>match x with|190=>33|125=>53|258=>52|128=>84|129=>85|302=>75|303=>76|304=>77|305=>78|306=>79|307=>80|308=>81|309=>82|310=>83|333=>112|329=>113|330=>114|334=>115|335=>116|336=>117|344=>148|n=>n,λx=>match x with|31=>22|9=>9|3=>3|46=>99|0=>0|51=>135|53=>137|4=>4|183=>128|182=>127|131=>132|5=>5|218=>175|222=>179|228=>227|229=>50|n=>n,λx=>match x with|n=>n⟩
theorem P9:Lays.n190 ŷ aeW where
 mixed:=by kernel_rfl
 f125:=Tryz.func53.trans (congrArg ś (by kernel_rfl))
 f128:=Tryz.func84.trans (congrArg ś (by kernel_rfl))
 f129:=Tryz.func85.trans (congrArg ś (by kernel_rfl))
 f190:=Tryz.func33.trans (congrArg ś (by kernel_rfl))
 f258:=Tryz.func52.trans (congrArg ś (by kernel_rfl))
 f302:=Tryz.func75.trans (congrArg ś (by kernel_rfl))
 f303:=Tryz.func76.trans (congrArg ś (by kernel_rfl))
 f304:=Tryz.func77.trans (congrArg ś (by kernel_rfl))
 f305:=Tryz.func78.trans (congrArg ś (by kernel_rfl))
 f306:=Tryz.func79.trans (congrArg ś (by kernel_rfl))
 f307:=Tryz.func80.trans (congrArg ś (by kernel_rfl))
 f308:=Tryz.func81.trans (congrArg ś (by kernel_rfl))
 f309:=Tryz.func82.trans (congrArg ś (by kernel_rfl))
 f310:=Tryz.func83.trans (congrArg ś (by kernel_rfl))
 f329:=Tryz.func113.trans (congrArg ś (by kernel_rfl))
 f330:=Tryz.func114.trans (congrArg ś (by kernel_rfl))
 f333:=Tryz.func112.trans (congrArg ś (by kernel_rfl))
 f334:=Tryz.func115.trans (congrArg ś (by kernel_rfl))
 f335:=Tryz.func116.trans (congrArg ś (by kernel_rfl))
 f336:=Tryz.func117.trans (congrArg ś (by kernel_rfl))
 f344:=Tryz.func148.trans (congrArg ś (by kernel_rfl))
 t0:=Tryz.underlying0
 a0:=Tryz.isAgg0
 z0:=Tryz.sizeOf0
 v0:=Tryz.zeroValue0
 t3:=Tryz.underlying3
 a3:=Tryz.isAgg3
 z3:=Tryz.sizeOf3
 v3:=Tryz.zeroValue3
 t4:=Tryz.underlying4
 a4:=Tryz.isAgg4
 z4:=Tryz.sizeOf4
 v4:=Tryz.zeroValue4
 t5:=Tryz.underlying5
 a5:=Tryz.isAgg5
 z5:=Tryz.sizeOf5
 v5:=Tryz.zeroValue5
 t9:=Tryz.underlying9
 a9:=Tryz.isAgg9
 z9:=Tryz.sizeOf9
 v9:=Tryz.zeroValue9
 t31:=Tryz.underlying22
 a31:=Tryz.isAgg22
 z31:=Tryz.sizeOf22
 v31:=Tryz.zeroValue22
 t46:=Tryz.underlying99
 a46:=Tryz.isAgg99
 z46:=Tryz.sizeOf99
 v46:=Tryz.zeroValue99
 t51:=Tryz.underlying135
 a51:=Tryz.isAgg135
 z51:=Tryz.sizeOf135
 v51:=Tryz.zeroValue135
 t53:=Tryz.underlying137
 a53:=Tryz.isAgg137
 z53:=Tryz.sizeOf137
 v53:=Tryz.zeroValue137
 t131:=Tryz.underlying132
 a131:=Tryz.isAgg132
 z131:=Tryz.sizeOf132
 v131:=Tryz.zeroValue132
 t182:=Tryz.underlying127
 a182:=Tryz.isAgg127
 z182:=Tryz.sizeOf127
 v182:=Tryz.zeroValue127
 t183:=Tryz.underlying128
 a183:=Tryz.isAgg128
 z183:=Tryz.sizeOf128
 v183:=Tryz.zeroValue128
 t218:=Tryz.underlying175
 a218:=Tryz.isAgg175
 z218:=Tryz.sizeOf175
 v218:=Tryz.zeroValue175
 t222:=Tryz.underlying179
 a222:=Tryz.isAgg179
 z222:=Tryz.sizeOf179
 v222:=Tryz.zeroValue179
 t228:=Tryz.underlying227
 a228:=Tryz.isAgg227
 z228:=Tryz.sizeOf227
 v228:=Tryz.zeroValue227
 t229:=Tryz.underlying50
 a229:=Tryz.isAgg50
 z229:=Tryz.sizeOf50
 v229:=Tryz.zeroValue50
def aeV:Go.Shelf.Ren:=⟨λx=>match x with|194=>34|n=>n,λx=>match x with|31=>22|9=>9|3=>3|4=>4|0=>0|n=>n,λx=>match x with|n=>n⟩
theorem P8:Lays.n194 ŷ aeV where
 mixed:=by kernel_rfl
 f194:=Tryz.func34.trans (congrArg ś (by kernel_rfl))
 t0:=Tryz.underlying0
 a0:=Tryz.isAgg0
 z0:=Tryz.sizeOf0
 v0:=Tryz.zeroValue0
 t3:=Tryz.underlying3
 a3:=Tryz.isAgg3
 z3:=Tryz.sizeOf3
 v3:=Tryz.zeroValue3
 t4:=Tryz.underlying4
 a4:=Tryz.isAgg4
 z4:=Tryz.sizeOf4
 v4:=Tryz.zeroValue4
 t9:=Tryz.underlying9
 a9:=Tryz.isAgg9
 z9:=Tryz.sizeOf9
 v9:=Tryz.zeroValue9
 t31:=Tryz.underlying22
 a31:=Tryz.isAgg22
 z31:=Tryz.sizeOf22
 v31:=Tryz.zeroValue22
theorem lC(l)(hl:l.length<4611686018427387904):FnH ŷ fv [0] [.ref 0 l.length] [ś (.arr aA 1 (l.map .str))] (.tup []) [ś (.arr aA 1 ((srt l).map .str))]:=by
 refine FnH.of_row (fL l) (λs hs=>BX.1 hs) (λargs w=>enters_of (f:=fv) P9.f190 (by kernel_rfl) rfl args w) ?_ ?_
 ·intro h p cap w
  exact Any.slices_Sort_string_none P9 p cap w
 ·intro g cap w hH hg
  exact Any.slices_Sort_string P9 g 0 cap l w hH hg hl
theorem k9(l)(hl:l.length<=9223372036854775807):FnH ŷ d9 [] [.ref 0 l.length] [ś (.arr aA 1 (l.map .str))] (.ref 0 (dd l).length) [ś (.arr aA 1 ((dd l).map .str))]:=by
 have hlen:(dd l).length<=l.length:=by
  cases l with
  |nil=>simp[dd]
  |cons x r=>
    have:∀(r:List Str)(p:Str),(r6 p r).length<=r.length:=λr=>by
     induction r with
     |nil=>intro p;simp[r6]
     |cons y r ih=>grind[r6]
    grind[dd]
 refine FnH.of_cut hlen (λs hs=>ZS.1 hs) (λargs w=>enters_of (f:=d9) P8.f194 (by kernel_rfl) rfl args w) ?_ ?_
 ·intro h p cap w
  exact Any.slices_Compact_string_empty P8 p cap w
 ·intro g cap w hH hc
  have:=Any.slices_Compact_string P8 g 0 cap l w hH hl hc;rwa[ZT]at this
end Go.Abs.F
end
section
set_option maxHeartbeats 4000000
set_option maxRecDepth 100000
namespace Go.Abs.F
open Go.Proofs Go.RowKit
theorem FnH.of_made{P f e n}(hcall:∀args w,(callFunc f args).run P w=.ok (.enter f args) w)
 (hdo:∀w,Calls P f #[.slice none 0 0,.int .i64 n] w λe' w'=>(e'=.returned (.slice none 0 0)/\w'=w)\/∃cap cur,e'=.returned (.slice (ś ⟨w.heap.size,0,none⟩) 0 cap)/\w'=w.drew.alloc (.cells cur e)/\cap<=maxLen/\cur.size=cap):
 FnH P f [] [.nil 1,.int .i64 n] [] (.ref 0 0) [ś (.arr e 1 [])]:=by
 intro M w κ cs J hJC hH hus o a Nx Q hN;rw[hcall,Oper.upon_enter];obtain⟨cl⟩:=cs;simp only[af]at hus;obtain⟨c,_,rfl,hc,d,_,rfl,hd,rfl⟩:=hus;simp only[rep]at hc hd;obtain rfl:c=.slice none 0 0:=hc.1;obtain rfl:d=.int .i64 n:=hd.1;refine(hdo w).mono ?_;rintro e' w' (⟨rfl,rfl⟩|⟨cap,cur,rfl,rfl,hcm,hsz⟩)
 ·have hb:∀g,¬(upd κ 0 (.slice none 0 0)).bl 0 g:=λg h=>by simp[dy,blk]at h
  refine hN (.slice none 0 0) M w' (upd κ 0 (.slice none 0 0)) ?_ (Und.refl _ _) ?_ (λ_ _ h=>h) (λ_ _ h=>.inl h) (λi hi=>by cases hi)
  ·simp only[rep,XX]
   refine⟨rfl,by simp,λe2 sz2 l2 h=>?_,λ_ _ _ _ h=>by simp at h,λo h hn=>by simp at h;subst h;cases hn⟩
   exact⟨by simp,λ_=>cq.symm⟩
  ·refine{ heap:=λid ob hid=>?_,inj:=λi j oi oj g' hi hj _ _=>?_,snd:=hH.snd,sep:=λp v hp id ob hid=>?_,fmS:=hH.fmS,gl:=hH.gl,jst:=hH.jst }
   ·cases id with
    |zero=>
      simp at hid;subst hid;simp only[bn];refine⟨by omega,by simp,[],?_,rfl,λg h=>absurd h (hb g),λg=>?_⟩
      ·grind[cq,World.ownsRow_nil]
      grind[cq,absurd,blk]
    |succ id=>simp at hid
   ·grind
   grind
 ·generalize hv:Value.slice (ś ⟨w.heap.size,0,none⟩) 0 cap=nv
  have hbk:blk nv=ś w.heap.size:=by rw[<-hv];rfl
  have hb:∀g,(upd κ 0 nv).bl 0 g↔w.heap.size=g:=λg=>by simp[dy,hbk]
  have hcell:∀p v,M p=ś v->(w.drew.alloc (.cells cur e)).cell? p=ś v:=by
   intro p v hp;have h5:=hH.snd p v hp;rw[World.cell?_of_block (heap_alloc_old w.drew _ (World.block_lt_of_cell? w p h5))];exact h5
  refine hN nv M _ (upd κ 0 nv) ?_ ?_ ?_ (λ_ _ h=>h) (λ_ _ h=>.inl h) (λi hi=>by cases hi)
  ·simp only[rep,XX]
   refine⟨by rw[<-hv];rfl,by simp,λe2 sz2 l2 h=>?_,λ_ _ _ _ h=>by simp at h,λo h hn=>by simp at h;subst h;cases hn⟩
   exact⟨by simp,λ_=>cq.symm⟩
  ·exact⟨rfl,rfl,rfl,by simp,λk hk _=>heap_alloc_old w.drew _ hk,λk cu T z hk=>⟨cu,T,z,by rw[heap_alloc_old w.drew _ (Array.getElem?_eq_some_iff.1 hk).1];exact hk,rfl⟩⟩
  ·refine{ heap:=λid ob hid=>?_,inj:=λi j oi oj g' hi hj _ _=>?_,snd:=hcell,sep:=λp v hp id ob hid=>?_,fmS:=hH.fmS,gl:=hH.gl,jst:=hH.jst }
   ·cases id with
    |zero=>
      simp at hid;subst hid;simp only[bn];refine⟨by omega,by simp,[],?_,rfl,λg h=>.inl (Nat.le_of_eq ((hb g).1 h)),λg=>?_⟩
      ·rw[cq,<-hv]
       exact⟨by simp,.inr ⟨w.heap.size,cap,cur,rfl,zAh _,heap_alloc_new w.drew _,zAh _,hcm,by omega,by simp⟩⟩
      grind[cq]
    |succ id=>simp at hid
   ·grind
   ·have:id=0:=by grind
    subst this;rw[hb];have:=World.block_lt_of_cell? w p (hH.snd p v hp);omega
def aeU:Go.Shelf.Ren:=⟨λx=>match x with|4=>fw|n=>n,λx=>match x with|25=>9|n=>n,λx=>x⟩
theorem aaX:Lays8.n4 ŷ aeU where
 mixed:=by kernel_rfl
 f4:=⟨Tryz.f51.name,by kernel_rfl,Tryz.func51.trans (congrArg ś (by kernel_rfl))⟩
 t0:=Tryz.underlying0
 a0:=Tryz.isAgg0
 z0:=Tryz.sizeOf0
 v0:=Tryz.zeroValue0
 t3:=Tryz.underlying3
 a3:=Tryz.isAgg3
 z3:=Tryz.sizeOf3
 v3:=Tryz.zeroValue3
 t4:=Tryz.underlying4
 a4:=Tryz.isAgg4
 z4:=Tryz.sizeOf4
 v4:=Tryz.zeroValue4
 t9:=Tryz.underlying9
 a9:=Tryz.isAgg9
 z9:=Tryz.sizeOf9
 v9:=Tryz.zeroValue9
 t20:=Tryz.underlying20
 a20:=Tryz.isAgg20
 z20:=Tryz.sizeOf20
 v20:=Tryz.zeroValue20
 t22:=Tryz.underlying22
 a22:=Tryz.isAgg22
 z22:=Tryz.sizeOf22
 v22:=Tryz.zeroValue22
theorem VM:(ŷ.info? 9).map (λi=>(i.zero,i.size,i.bytes))=ś (ś (.string ByteArray.empty),1,16):=by kernel_rfl
theorem OC(n:Nat)(hn:n<=1000000):FnH ŷ fw [] [.nil 1,.int .i64 n] [] (.ref 0 0) [ś (.arr aA 1 [])]:=by
 refine FnH.of_made (λargs w=>aaX.f4.enters rfl args w) λw=>?_;by_cases h0:n=0
 ·subst h0
  refine(Any8.slices_Grow_room aaX none 0 0 0 w (by omega) (by omega) (by omega) (by omega)).mono ?_
  simp
 ·obtain⟨i0,hi0,hz⟩:=Option.map_eq_some_iff.1 VM
  simp only[Prod.mk.injEq]at hz;refine(Any8.slices_Grow_grow aaX i0 (.string ByteArray.empty) hi0 hz.1 (by omega) none 0 0 n [] w (by omega) (by omega) (by rw[hz.2.2];omega) (by omega) (by simp) (λ_=>rfl) (λa h=>by cases h)).mono ?_
  rintro e w' ⟨rfl,rfl⟩;have h1:=grownCap_ge w n 0 9;refine .inr ⟨_,_,rfl,rfl,grownCap_le_maxLen w (0+n) 0 9 (by grind[maxLen]),?_⟩
  have:(Value.string ByteArray.empty).cells.size=1:=rfl;grind[Array.size_append,size_zeroCells,aeU]
end Go.Abs.F
end
