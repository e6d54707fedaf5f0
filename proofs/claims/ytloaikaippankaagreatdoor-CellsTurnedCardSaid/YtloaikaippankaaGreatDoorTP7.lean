/-
  Plain: texts sorted, each once. No program in sight. No condition.
  slices.Sort and slices.Compact of texts, by the kit's contracts, told as contracts of the abstract machine. No condition.
  slices.Grow of no texts, by the kit's contract, told as a contract of the abstract machine: a new row without anything. No condition.
-/
import Derived.Test.YtloaikaippankaaGreatDoorTF1
import Derived.Lib.SlicesCompact
import Derived.Test.YtloaikaippankaaGreatDoorTZ1
import Derived.Test.YtloaikaippankaaGreatDoorTCodeC
import Derived.Shelf.Spec.SlicesGrow
set_option linter.unusedVariables false
set_option linter.unusedSimpArgs false
set_option linter.unusedSectionVars false
section
set_option maxHeartbeats 4000000
set_option maxRecDepth 100000
namespace Go.Abs.F
open Go.Proofs
attribute [-simp] getElem?_pos Option.not_isSome List.map_map
def srt (l:List Str):List Str:=l.mergeSort fun x y=>decide (x≤y)
theorem vH {l:List Str} {s:Str}:s∈srt l↔s∈l:=List.mem_mergeSort
theorem de (l:List Str):(srt l).length=l.length:=List.length_mergeSort _
theorem FK (l:List Str):(srt l).Pairwise fun x y=>x≤y:=by
 have:=List.pairwise_mergeSort (le:=fun x y:Str=>decide (x≤y)) (fun a b c h1 h2=>by
  simp only [decide_eq_true_eq] at *; exact List.le_trans h1 h2) (fun a b=>by
  simp only [Bool.or_eq_true,decide_eq_true_eq]; exact List.le_total a b) l
 exact this.imp fun h=>of_decide_eq_true h
def kE:Str→List Str→List Str
 | _,[]=>[]
 | p,y::l=>if y=p then kE p l else y::kE y l
def dd:List Str→List Str
 | []=>[]
 | x::l=>x::kE x l
theorem Bn:∀ (l:List Str) (p x:Str),kE p (l++[x])=kE p l++(if x=(p::l)[l.length]! then [] else [x])
 | [],p,x=>by by_cases h:x=p<;>simp [kE,h]
 | y::l,p,x=>by
   simp only [List.cons_append,kE]
   have ih:=Bn l y x
   by_cases h:y=p
   · subst h
     simp only [if_true,ih]
     simp
   · simp only [if_neg h,ih]
     simp
theorem nY:∀ (zs:List Str) (m:Nat),m≤zs.length→Lib.compactUpTo zs.toArray m=dd (zs.take m)
 | zs,0,_=>by simp [Lib.compactUpTo,dd]
 | zs,m + 1,h=>by
   have ih:=nY zs m (by omega)
   obtain ⟨x,hx⟩:=ap (l:=zs) (k:=m) (by omega)
   have htk:zs.take (m + 1)=zs.take m++[x]:=by rw [List.take_add_one,hx]; rfl
   have hxm:zs.toArray[m]! = x:=by
    have:=List.getElem?_eq_some_iff.1 hx
    obtain ⟨h1,h2⟩:=this
    simp [getElem!_pos,h1,h2]
   rw [htk]
   simp only [Lib.compactUpTo] at ih ⊢
   rw [List.range_succ,List.filter_append,List.map_append,ih]
   cases hm:zs.take m with
   | nil=>
     have hm0:m=0:=by
      have:=congrArg List.length hm
      simp at this
      rcases this with h | h
      · exact h
      · subst h; simp at hx
     subst hm0
     simp [dd,Lib.keeps,kE,hx]
   | cons y l=>
     have hm0:0 < m:=by
      cases m with
      | zero=>simp at hm
      | succ m=>omega
     have hl:l.length=m - 1:=by
      have:=congrArg List.length hm
      simp at this
      omega
     have hlast:(y::l)[l.length]! = zs.toArray[m - 1]!:=by
      rw [←hm,hl]
      have h1:m - 1 < zs.length:=by omega
      have h2:m - 1 < (zs.take m).length:=by simp; omega
      rw [getElem!_pos (zs.take m) (m - 1) h2,getElem!_pos zs.toArray (m - 1) (by simpa using h1)]
      simp
     simp only [List.cons_append,dd,Bn]
     rw [hlast]
     have hk:Lib.keeps zs.toArray m=decide (x≠zs.toArray[m - 1]!):=by
      simp only [Lib.keeps,hxm]
      congr 1
      simp; omega
     by_cases he:x=zs.toArray[m - 1]!
     · have hkf:Lib.keeps zs.toArray m=false:=by rw [hk]; exact decide_eq_false (fun h=>h he)
       rw [if_pos he]
       simp only [List.filter_cons,hkf,Bool.false_eq_true,if_false,List.filter_nil,List.map_nil]
     · have hkt:Lib.keeps zs.toArray m=true:=by rw [hk]; exact decide_eq_true he
       rw [if_neg he]
       simp only [List.filter_cons,hkt,if_true,List.filter_nil,List.map_cons,List.map_nil,hxm]
theorem Ha (zs:List Str):Lib.compact zs=dd zs:=by
 rw [Lib.compact,nY zs zs.length (Nat.le_refl _),List.take_length]
theorem xZ:∀ (l:List Str) (p s:Str),s∈p::kE p l↔s∈p::l
 | [],p,s=>by simp [kE]
 | y::l,p,s=>by
   simp only [kE]
   by_cases h:y=p
   · subst h
     simp only [if_true]
     rw [xZ l y s]
     simp
   · simp only [if_neg h]
     have:=xZ l y s
     simp only [List.mem_cons] at this ⊢
     rw [this]
theorem G9 {l:List Str} {s:Str}:s∈dd l↔s∈l:=by
 cases l with
 | nil=>simp [dd]
 | cons x l=>exact xZ l x s
theorem nU:∀ (l:List Str) (p:Str),(p::l).Pairwise (fun x y=>x≤y)→(p::kE p l).Pairwise (fun x y=>x < y)
 | [],p,_=>by simp [kE]
 | y::l,p,h=>by
   simp only [kE]
   have h1:=(List.pairwise_cons.1 h).1
   have h2:=(List.pairwise_cons.1 h).2
   by_cases he:y=p
   · subst he
     simp only [if_true]
     exact nU l y h2
   · simp only [if_neg he]
     have ih:=nU l y h2
     have hlt:p < y:=by
      rcases List.le_iff_lt_or_eq.1 (h1 y (by simp)) with h | h
      · exact h
      · exact absurd h.symm he
     refine List.pairwise_cons.2 ⟨fun s hs=>?_,ih⟩
     rcases List.mem_cons.1 hs with rfl | hs
     · exact hlt
     · exact List.lt_trans hlt ((List.pairwise_cons.1 ih).1 s hs)
def sd (l:List Str):List Str:=dd (srt l)
theorem Ld {l:List Str} {s:Str}:s∈sd l↔s∈l:=by rw [sd,G9,vH]
theorem th (l:List Str):(sd l).Pairwise fun x y=>x < y:=by
 unfold sd
 have h:=FK l
 generalize srt l=r at h
 cases r with
 | nil=>simp [dd]
 | cons x r=>exact nU r x h
theorem qw:∀ {a b:List Str},a.Pairwise (fun x y=>x < y)→b.Pairwise (fun x y=>x < y)→(∀ s,s∈a↔s∈b)→a=b
 | [],[],_,_,_=>rfl
 | [],y::b,_,_,h=>by have:=(h y).2 (by simp); cases this
 | x::a,[],_,_,h=>by have:=(h x).1 (by simp); cases this
 | x::a,y::b,ha,hb,h=>by
   have ha1:=(List.pairwise_cons.1 ha).1
   have hb1:=(List.pairwise_cons.1 hb).1
   have hxy:x=y:=by
    rcases List.mem_cons.1 ((h x).1 (by simp)) with h1 | h1
    · exact h1
    · rcases List.mem_cons.1 ((h y).2 (by simp)) with h2 | h2
      · exact h2.symm
      · exact absurd (List.lt_trans (hb1 x h1) (ha1 y h2)) (List.lt_irrefl _)
   subst hxy
   congr 1
   refine qw (List.pairwise_cons.1 ha).2 (List.pairwise_cons.1 hb).2 fun s=>?_
   constructor
   · intro hs
     rcases List.mem_cons.1 ((h s).1 (by simp [hs])) with h1 | h1
     · subst h1; exact absurd (ha1 s hs) (List.lt_irrefl _)
     · exact h1
   · intro hs
     rcases List.mem_cons.1 ((h s).2 (by simp [hs])) with h1 | h1
     · subst h1; exact absurd (hb1 s hs) (List.lt_irrefl _)
     · exact h1
end Go.Abs.F
end
section
set_option maxHeartbeats 4000000
set_option maxRecDepth 100000
namespace Go.Abs.F
open Go.Proofs Go.RowKit Go.Sort
def Lv:Go.Shelf.Ren:=⟨fun x=>match x with | 190=>35 | 125=>60 | 258=>59 | 128=>107 | 129=>108 | 302=>98 | 303=>99 | 304=>100 | 305=>101 | 306=>102 | 307=>103 | 308=>104 | 309=>105 | 310=>106 | 333=>143 | 329=>144 | 330=>145 | 334=>146 | 335=>147 | 336=>148 | 344=>178 | n=>n,fun x=>match x with | 31=>22 | 9=>9 | 3=>3 | 46=>104 | 0=>0 | 51=>147 | 53=>149 | 4=>4 | 183=>140 | 182=>139 | 131=>144 | 5=>5 | 218=>175 | 222=>179 | 228=>217 | 229=>133 | n=>n,fun x=>match x with  | n=>n⟩
theorem A4:Lays.n190 Tryz.prog Lv where
 mixed:=by kernel_rfl
 f125:=Tryz.func60.trans (congrArg some (by kernel_rfl))
 f128:=Tryz.func107.trans (congrArg some (by kernel_rfl))
 f129:=Tryz.func108.trans (congrArg some (by kernel_rfl))
 f190:=Tryz.func35.trans (congrArg some (by kernel_rfl))
 f258:=Tryz.func59.trans (congrArg some (by kernel_rfl))
 f302:=Tryz.func98.trans (congrArg some (by kernel_rfl))
 f303:=Tryz.func99.trans (congrArg some (by kernel_rfl))
 f304:=Tryz.func100.trans (congrArg some (by kernel_rfl))
 f305:=Tryz.func101.trans (congrArg some (by kernel_rfl))
 f306:=Tryz.func102.trans (congrArg some (by kernel_rfl))
 f307:=Tryz.func103.trans (congrArg some (by kernel_rfl))
 f308:=Tryz.func104.trans (congrArg some (by kernel_rfl))
 f309:=Tryz.func105.trans (congrArg some (by kernel_rfl))
 f310:=Tryz.func106.trans (congrArg some (by kernel_rfl))
 f329:=Tryz.func144.trans (congrArg some (by kernel_rfl))
 f330:=Tryz.func145.trans (congrArg some (by kernel_rfl))
 f333:=Tryz.func143.trans (congrArg some (by kernel_rfl))
 f334:=Tryz.func146.trans (congrArg some (by kernel_rfl))
 f335:=Tryz.func147.trans (congrArg some (by kernel_rfl))
 f336:=Tryz.func148.trans (congrArg some (by kernel_rfl))
 f344:=Tryz.func178.trans (congrArg some (by kernel_rfl))
 t0:=Tryz.underlying0
 a0:=Tryz.isAgg0
 z0:=Tryz.sizeOf0
 v0:=Tryz.zeroValue0
 t3:=Tryz.underlying3
 a3:=Tryz.isAgg3
 z3:=Tryz.sizeOf3
 v3:=Tryz.zeroValue3
 t4:=Tryz.underlying4
 a4:=Tryz.isAgg4
 z4:=Tryz.sizeOf4
 v4:=Tryz.zeroValue4
 t5:=Tryz.underlying5
 a5:=Tryz.isAgg5
 z5:=Tryz.sizeOf5
 v5:=Tryz.zeroValue5
 t9:=Tryz.underlying9
 a9:=Tryz.isAgg9
 z9:=Tryz.sizeOf9
 v9:=Tryz.zeroValue9
 t31:=Tryz.underlying22
 a31:=Tryz.isAgg22
 z31:=Tryz.sizeOf22
 v31:=Tryz.zeroValue22
 t46:=Tryz.underlying104
 a46:=Tryz.isAgg104
 z46:=Tryz.sizeOf104
 v46:=Tryz.zeroValue104
 t51:=Tryz.underlying147
 a51:=Tryz.isAgg147
 z51:=Tryz.sizeOf147
 v51:=Tryz.zeroValue147
 t53:=Tryz.underlying149
 a53:=Tryz.isAgg149
 z53:=Tryz.sizeOf149
 v53:=Tryz.zeroValue149
 t131:=Tryz.underlying144
 a131:=Tryz.isAgg144
 z131:=Tryz.sizeOf144
 v131:=Tryz.zeroValue144
 t182:=Tryz.underlying139
 a182:=Tryz.isAgg139
 z182:=Tryz.sizeOf139
 v182:=Tryz.zeroValue139
 t183:=Tryz.underlying140
 a183:=Tryz.isAgg140
 z183:=Tryz.sizeOf140
 v183:=Tryz.zeroValue140
 t218:=Tryz.underlying175
 a218:=Tryz.isAgg175
 z218:=Tryz.sizeOf175
 v218:=Tryz.zeroValue175
 t222:=Tryz.underlying179
 a222:=Tryz.isAgg179
 z222:=Tryz.sizeOf179
 v222:=Tryz.zeroValue179
 t228:=Tryz.underlying217
 a228:=Tryz.isAgg217
 z228:=Tryz.sizeOf217
 v228:=Tryz.zeroValue217
 t229:=Tryz.underlying133
 a229:=Tryz.isAgg133
 z229:=Tryz.sizeOf133
 v229:=Tryz.zeroValue133
def Lu:Go.Shelf.Ren:=⟨fun x=>match x with | 194=>36 | n=>n,fun x=>match x with | 31=>22 | 9=>9 | 3=>3 | 4=>4 | 0=>0 | n=>n,fun x=>match x with  | n=>n⟩
theorem A3:Lays.n194 Tryz.prog Lu where
 mixed:=by kernel_rfl
 f194:=Tryz.func36.trans (congrArg some (by kernel_rfl))
 t0:=Tryz.underlying0
 a0:=Tryz.isAgg0
 z0:=Tryz.sizeOf0
 v0:=Tryz.zeroValue0
 t3:=Tryz.underlying3
 a3:=Tryz.isAgg3
 z3:=Tryz.sizeOf3
 v3:=Tryz.zeroValue3
 t4:=Tryz.underlying4
 a4:=Tryz.isAgg4
 z4:=Tryz.sizeOf4
 v4:=Tryz.zeroValue4
 t9:=Tryz.underlying9
 a9:=Tryz.isAgg9
 z9:=Tryz.sizeOf9
 v9:=Tryz.zeroValue9
 t31:=Tryz.underlying22
 a31:=Tryz.isAgg22
 z31:=Tryz.sizeOf22
 v31:=Tryz.zeroValue22
theorem fX (l:List Str) (hl:l.length < 4611686018427387904):FnH Tryz.prog cX [0] [.ref 0 l.length] [some (.arr au 1 (l.map .str))] (.tup []) [some (.arr au 1 ((srt l).map .str))]:=by
 refine FnH.of_row (de l) (fun s hs=>vH.1 hs) (fun args w=>enters_of (f:=cX) A4.f190 (by kernel_rfl) rfl args w) ?_ ?_
 · intro h p cap w
   exact Any.slices_Sort_string_none A4 p cap w
 · intro g cap w hH hg
   exact Any.slices_Sort_string A4 g 0 cap l w hH hg hl
theorem fL (l:List Str) (hl:l.length≤9223372036854775807):FnH Tryz.prog cj [] [.ref 0 l.length] [some (.arr au 1 (l.map .str))] (.ref 0 (dd l).length) [some (.arr au 1 ((dd l).map .str))]:=by
 have hlen:(dd l).length≤l.length:=by
  cases l with
  | nil=>simp [dd]
  | cons x r=>
    have:∀ (r:List Str) (p:Str),(kE p r).length≤r.length:=fun r=>by
     induction r with
     | nil=>intro p; simp [kE]
     | cons y r ih=>intro p; simp only [kE]; split<;>simp<;>have:=ih p<;>have:=ih y<;>omega
    simpa [dd] using this r x
 refine FnH.of_cut hlen (fun s hs=>G9.1 hs) (fun args w=>enters_of (f:=cj) A3.f194 (by kernel_rfl) rfl args w) ?_ ?_
 · intro h p cap w
   exact Any.slices_Compact_string_empty A3 p cap w
 · intro g cap w hH hc
   have:=Any.slices_Compact_string A3 g 0 cap l w hH hl hc
   rwa [Ha] at this
end Go.Abs.F
end
section
set_option maxHeartbeats 4000000
set_option maxRecDepth 100000
namespace Go.Abs.F
open Go.Proofs Go.RowKit
theorem FnH.of_made {P:Program} {f:FuncId} {e:TypeId} {n:Int} (hcall:∀ args w,(callFunc f args).run P w=.ok (.enter f args) w)
 (hdo:∀ w,Calls P f #[.slice none 0 0,.int .i64 n] w fun e' w'=>(e'=.returned (.slice none 0 0)∧w'=w)∨∃ cap cur,e'=.returned (.slice (some ⟨w.heap.size,0,none⟩) 0 cap)∧w'=w.drew.alloc (.cells cur e)∧cap≤maxLen∧cur.size=cap):
 FnH P f [] [.nil 1,.int .i64 n] [] (.ref 0 0) [some (.arr e 1 [])]:=by
 intro M w κ cs J hJC hH hus o a Nx Q hN
 rw [hcall,Oper.upon_enter]
 obtain ⟨cl⟩:=cs
 simp only [aa] at hus
 obtain ⟨c,_,rfl,hc,d,_,rfl,hd,rfl⟩:=hus
 simp only [rep] at hc hd
 obtain rfl:c=.slice none 0 0:=hc.1
 obtain rfl:d=.int .i64 n:=hd.1
 refine (hdo w).mono ?_
 rintro e' w' (⟨rfl,rfl⟩ | ⟨cap,cur,rfl,rfl,hcm,hsz⟩)
 · have hb:∀ g,¬(upd κ 0 (.slice none 0 0)).bl 0 g:=fun g h=>by simp [bS,blk] at h
   refine hN (.slice none 0 0) M w' (upd κ 0 (.slice none 0 0)) ?_ (Und.refl _ _) ?_ (fun _ _ h=>h) (fun _ _ h=>.inl h) (fun i hi=>by cases hi)
   · simp only [rep,XX]
     refine ⟨rfl,by simp,fun e2 sz2 l2 h=>?_,fun _ _ _ _ h=>by simp at h,fun o h hn=>by simp at h; subst h; cases hn⟩
     exact ⟨by simp,fun _=>bk.symm⟩
   · refine { heap:=fun id ob hid=>?_,inj:=fun i j oi oj g' hi hj _ _=>?_,snd:=hH.snd,sep:=fun p v hp id ob hid=>?_,fmS:=hH.fmS,gl:=hH.gl,jst:=hH.jst }
     · cases id with
       | zero=>
         simp at hid
         subst hid
         simp only [aK]
         refine ⟨by omega,by simp,[],?_,rfl,fun g h=>absurd h (hb g),fun g=>?_⟩
         · rw [bk]; exact World.ownsRow_nil _ _ _ _
         · rw [bk]; exact ⟨fun h=>absurd h (hb g),fun h=>by simp [blk] at h⟩
       | succ id=>simp at hid
     · have:i=0:=by cases i<;>simp at hi ⊢
       have:j=0:=by cases j<;>simp at hj ⊢
       omega
     · have:id=0:=by cases id<;>simp at hid ⊢
       subst this
       exact hb _
 · generalize hv:Value.slice (some ⟨w.heap.size,0,none⟩) 0 cap=nv
   have hbk:blk nv=some w.heap.size:=by rw [←hv]; rfl
   have hb:∀ g,(upd κ 0 nv).bl 0 g↔w.heap.size=g:=fun g=>by simp [bS,hbk]
   have hcell:∀ p v,M p=some v→(w.drew.alloc (.cells cur e)).cell? p=some v:=by
    intro p v hp
    have h5:=hH.snd p v hp
    rw [World.cell?_of_block (heap_alloc_old w.drew _ (World.block_lt_of_cell? w p h5))]
    exact h5
   refine hN nv M _ (upd κ 0 nv) ?_ ?_ ?_ (fun _ _ h=>h) (fun _ _ h=>.inl h) (fun i hi=>by cases hi)
   · simp only [rep,XX]
     refine ⟨by rw [←hv]; rfl,by simp,fun e2 sz2 l2 h=>?_,fun _ _ _ _ h=>by simp at h,fun o h hn=>by simp at h; subst h; cases hn⟩
     exact ⟨by simp,fun _=>bk.symm⟩
   · exact ⟨rfl,rfl,rfl,by simp,fun k hk _=>heap_alloc_old w.drew _ hk,fun k cu T z hk=>⟨cu,T,z,by rw [heap_alloc_old w.drew _ (Array.getElem?_eq_some_iff.1 hk).1]; exact hk,rfl⟩⟩
   · refine { heap:=fun id ob hid=>?_,inj:=fun i j oi oj g' hi hj _ _=>?_,snd:=hcell,sep:=fun p v hp id ob hid=>?_,fmS:=hH.fmS,gl:=hH.gl,jst:=hH.jst }
     · cases id with
       | zero=>
         simp at hid
         subst hid
         simp only [aK]
         refine ⟨by omega,by simp,[],?_,rfl,fun g h=>.inl (Nat.le_of_eq ((hb g).1 h)),fun g=>?_⟩
         · rw [bk,←hv]
           exact ⟨by simp,.inr ⟨w.heap.size,cap,cur,rfl,Nat.zero_le _,heap_alloc_new w.drew _,Nat.zero_le _,hcm,by omega,by simp⟩⟩
         · rw [hb,bk,hbk]; simp
       | succ id=>simp at hid
     · have:i=0:=by cases i<;>simp at hi ⊢
       have:j=0:=by cases j<;>simp at hj ⊢
       omega
     · have:id=0:=by cases id<;>simp at hid ⊢
       subst this
       rw [hb]
       have:=World.block_lt_of_cell? w p (hH.snd p v hp)
       omega
def Lt:Go.Shelf.Ren:=⟨fun x=>match x with | 4=>cY | n=>n,fun x=>match x with | 25=>9 | n=>n,fun x=>x⟩
theorem HX:Lays8.n4 Tryz.prog Lt where
 mixed:=by kernel_rfl
 f4:=⟨Tryz.f58.name,by kernel_rfl,vn.trans (congrArg some (by kernel_rfl))⟩
 t0:=Tryz.underlying0
 a0:=Tryz.isAgg0
 z0:=Tryz.sizeOf0
 v0:=Tryz.zeroValue0
 t3:=Tryz.underlying3
 a3:=Tryz.isAgg3
 z3:=Tryz.sizeOf3
 v3:=Tryz.zeroValue3
 t4:=Tryz.underlying4
 a4:=Tryz.isAgg4
 z4:=Tryz.sizeOf4
 v4:=Tryz.zeroValue4
 t9:=Tryz.underlying9
 a9:=Tryz.isAgg9
 z9:=Tryz.sizeOf9
 v9:=Tryz.zeroValue9
 t20:=Tryz.underlying20
 a20:=Tryz.isAgg20
 z20:=Tryz.sizeOf20
 v20:=Tryz.zeroValue20
 t22:=Tryz.underlying22
 a22:=Tryz.isAgg22
 z22:=Tryz.sizeOf22
 v22:=Tryz.zeroValue22
theorem Er:(Tryz.prog.info? 9).map (fun i=>(i.zero,i.size,i.bytes))=some (some (.string ByteArray.empty),1,16):=by kernel_rfl
theorem zW (n:Nat) (hn:n≤1000000):FnH Tryz.prog cY [] [.nil 1,.int .i64 n] [] (.ref 0 0) [some (.arr au 1 [])]:=by
 refine FnH.of_made (fun args w=>HX.f4.enters rfl args w) fun w=>?_
 by_cases h0:n=0
 · subst h0
   refine (Any8.slices_Grow_room HX none 0 0 0 w (by omega) (by omega) (by omega) (by omega)).mono ?_
   rintro e w' ⟨rfl,rfl⟩
   exact .inl ⟨rfl,rfl⟩
 · obtain ⟨i0,hi0,hz⟩:=Option.map_eq_some_iff.1 Er
   simp only [Prod.mk.injEq] at hz
   refine (Any8.slices_Grow_grow HX i0 (.string ByteArray.empty) hi0 hz.1 (by omega) none 0 0 n [] w (by omega) (by omega) (by rw [hz.2.2]; omega) (by omega) (by simp) (fun _=>rfl) (fun a h=>by cases h)).mono ?_
   rintro e w' ⟨rfl,rfl⟩
   have h1:=grownCap_ge w n 0 9
   refine .inr ⟨_,_,rfl,rfl,grownCap_le_maxLen w (0 + n) 0 9 (by simp only [maxLen]; omega),?_⟩
   have:(Value.string ByteArray.empty).cells.size=1:=rfl
   simp only [Array.size_append,size_zeroCells,this,Lt] at *
   simp
   omega
end Go.Abs.F
end
