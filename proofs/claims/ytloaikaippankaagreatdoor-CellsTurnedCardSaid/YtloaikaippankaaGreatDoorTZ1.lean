/-
  The library's functions that turn a row of texts in place (slices.Sort, slices.Compact), told as contracts of the abstract machine. No condition.
-/
import Derived.Test.YtloaikaippankaaGreatDoorTAbs14
import Derived.Shelf.Sort.Plain
import Derived.Shelf.Slices.In.SortNone
import Derived.Shelf.Slices.CompactS
set_option linter.unusedVariables false
set_option linter.unusedSimpArgs false
set_option linter.unusedSectionVars false
set_option maxHeartbeats 1000000
set_option maxRecDepth 100000
namespace Go.Abs
open Go.Proofs Go.RowKit Go.Sort
section
variable {P:Program}
theorem JP {bs:ByteArray} {s:List UInt8} (h:bs.data.toList=s):Value.string bs=encStr s:=by
 subst h
 simp [encStr]
theorem mX {M:Mem}:∀ {l:List (List UInt8)} {xs:List Value},al M 1 (l.map V.str) xs→xs=l.map encStr∧∀ s∈l,s.length≤4611686018427387904
 | [],_,h=>by simp only [List.map_nil,al] at h; simp [h]
 | s::l,xs,h=>by
   simp only [List.map_cons,al] at h
   obtain ⟨y,rest,rfl,⟨bs,rfl,h1,h2⟩,_,_,h3⟩:=h
   obtain ⟨rfl,h4⟩:=mX h3
   refine ⟨by simp [Value.cells,JP h1],?_⟩
   intro t ht
   rcases List.mem_cons.1 ht with rfl | ht
   · exact h2
   · exact h4 t ht
theorem mK {M:Mem}:∀ {l:List (List UInt8)},(∀ s∈l,s.length≤4611686018427387904)→al M 1 (l.map V.str) (l.map encStr)
 | [],_=>by simp [al]
 | s::l,h=>by
   simp only [List.map_cons,al]
   refine ⟨encStr s,l.map encStr,by simp [encStr,Value.cells],?_,by simp [encStr,Value.cells],?_,mK fun t ht=>h t (by simp [ht])⟩
   · simp only [rep]
     exact ⟨⟨s.toArray⟩,rfl,by simp,h s (by simp)⟩
   · intro u hu
     simp [encStr,Value.cells] at hu
     subst hu
     rfl
theorem pF {l:List (List UInt8)} {cur:Array Value} (h:l.length≤cur.size):(putCells encStr 0 l.toArray cur).toList.take l.length=l.map encStr:=by
 apply List.ext_getElem?
 intro k
 rw [List.getElem?_take]
 by_cases hk:k < l.length
 · rw [if_pos hk,Array.getElem?_toList]
   have hc:k < cur.size:=by omega
   simp [putCells,hc,hk]
 · rw [if_neg hk,List.getElem?_map,List.getElem?_eq_none (by omega)]
   rfl
theorem fU {l:List (List UInt8)} {cur:Array Value}:(putCells encStr 0 l.toArray cur).size=cur.size:=by simp [putCells]
theorem uz {w:World} {g:Nat} {l:List (List UInt8)} {n:Nat} {os:Array Obj} {cur:Array Value} {e:TypeId} (h:w.heap[g]?=some (.cells cur e (0,0))):
 (grow (putRow encStr (Sort.ahead w n) g 0 l.toArray) os).heap[g]?=some (.cells (putCells encStr 0 l.toArray cur) e (0,0))∧
 (∀ k,k < w.heap.size→k≠g→(grow (putRow encStr (Sort.ahead w n) g 0 l.toArray) os).heap[k]?=w.heap[k]?)∧w.heap.size≤(grow (putRow encStr (Sort.ahead w n) g 0 l.toArray) os).heap.size:=by
 have hlt:=(Array.getElem?_eq_some_iff.1 h).1
 refine ⟨?_,fun k hk hne=>?_,?_⟩
 · simp only [grow,putRow,mapBlock,Sort.ahead]
   rw [Array.getElem?_append_left (by simpa using hlt),Array.getElem?_modify]
   simp [h,onCells]
 · simp only [grow,putRow,mapBlock,Sort.ahead]
   rw [Array.getElem?_append_left (by simpa using hk),Array.getElem?_modify]
   simp [Ne.symm hne]
 · simp only [grow,putRow,mapBlock,Sort.ahead]
   simp
theorem FnH.of_row {f:FuncId} {e:TypeId} {l l':List (List UInt8)} (hlen:l'.length=l.length) (hmem:∀ s∈l',s∈l) (hcall:∀ args w,(callFunc f args).run P w=.ok (.enter f args) w)
 (hnil:l=[]→∀ (p:Option Addr) (cap:Nat) (w:World),Calls P f #[.slice p 0 cap] w fun e w'=>e=.returned (.tuple #[])∧w'=w)
 (hdo:∀ (g cap:Nat) (w:World),Holds encStr w g 0 l.toArray→g < w.heap.size→Calls P f #[.slice (some ⟨g,0,none⟩) l.length cap] w fun e w'=>e=.returned (.tuple #[])∧∃ n os,w'=grow (putRow encStr (Sort.ahead w n) g 0 l'.toArray) os):
 FnH P f [0] [.ref 0 l.length] [some (.arr e 1 (l.map .str))] (.tup []) [some (.arr e 1 (l'.map .str))]:=by
 intro M w κ cs J hJC hH hus o a Nx Q hN
 rw [hcall,Oper.upon_enter]
 obtain ⟨cl⟩:=cs
 simp only [aa] at hus
 obtain ⟨c,cs',rfl,hc,rfl⟩:=hus
 simp only [rep,XX] at hc
 have hc0:c=κ 0:=(hc.2.2.1 e 1 _ rfl).2 (by simp)
 have ho:=hH.heap 0 _ rfl
 simp only [aK] at ho
 obtain ⟨h1,h2,xs,hown,hrow,hbo,hbl⟩:=ho
 obtain ⟨rfl,hsl⟩:=mX hrow
 rcases hown.2 with ⟨hv0,h0⟩ | ⟨g,cap,cur,hv0,hg0,hcur,hle,hcap,hsz,htk⟩
 · have hl:l=[]:=by simpa using h0
   have hl':l'=[]:=by simpa [hl] using hlen
   subst hl hl'
   rw [hc0,hv0]
   refine (hnil rfl none 0 w).mono ?_
   rintro e' w' ⟨rfl,rfl⟩
   refine hN (.tuple #[]) M w' κ (by simp [rep,aa]) (Und.refl _ _) hH (fun _ _ h=>h) (fun _ _ h=>.inl h) ?_
   intro i hi u d hu hd
   simp only [List.mem_singleton] at hi
   subst hi
   simp at hu hd
   subst hu hd
   rw [hv0] at hc0
   subst hc0
   simp only [rep,XX]
   exact hc
 · have hlm:(l.map V.str).length=l.length:=by simp
   rw [hlm] at hle htk hv0
   have hgl:=(Array.getElem?_eq_some_iff.1 hcur).1
   have hbg:κ.bl 0 g:=(hbl g).2 (by rw [hv0]; rfl)
   rw [hc0,hv0]
   refine (hdo g cap w ?_ hgl).mono ?_
   · intro j hj
     simp at hj
     have hj2:j < cur.size:=by omega
     have e1:cur[j]?=some (encStr (l[j])):=by
      have:=congrArg (·[j]?) htk
      simp only [List.getElem?_take,Nat.mul_one,if_pos hj,Array.getElem?_toList,List.getElem?_map] at this
      rw [this]; simp [hj]
     refine ⟨?_,?_⟩
     · simp [World.cell?,hcur,e1,hj]
     · simp [World.frozen?,hcur]
   · rintro e' w' ⟨rfl,n,os,rfl⟩
     obtain ⟨k1,k2,k3⟩:=uz (l:=l') (n:=n) (os:=os) hcur
     generalize hw':grow (putRow encStr (Sort.ahead w n) g 0 l'.toArray) os=w' at *
     have hos:w'.os=w.os∧w'.tape=w.tape∧w'.output=w.output:=by rw [←hw']; exact ⟨rfl,rfl,rfl⟩
     have hU:Und (cI κ [some (.arr e 1 (l.map .str))] w [0] ⟨[c]⟩ J) w w':=by
      refine ⟨hos.1,hos.2.1,hos.2.2,k3,fun k hk hns=>?_,fun k cu T z hk=>?_⟩
      · refine k2 k hk fun e0=>hns ?_
        subst e0
        exact ⟨0,_,rfl,hbg⟩
      · by_cases hkg:k=g
        · subst hkg
          rw [hcur] at hk
          cases hk
          exact ⟨_,_,_,k1,fU⟩
        · exact ⟨cu,T,z,by rw [k2 k (Array.getElem?_eq_some_iff.1 hk).1 hkg]; exact hk,rfl⟩
     have hcell:∀ p v,M p=some v→w'.cell? p=some v:=by
      intro p v hp
      have h5:=hH.snd p v hp
      have hne:p.block≠g:=fun e0=>hH.sep p v hp 0 _ rfl (by rw [e0]; exact hbg)
      have hlt:p.block < w.heap.size:=World.block_lt_of_cell? w p h5
      unfold World.cell? at h5 ⊢
      rw [k2 _ hlt hne]
      exact h5
     refine hN (.tuple #[]) M w' κ (by simp [rep,aa]) hU ?_ (fun _ _ h=>h) (fun _ _ h=>.inl h) ?_
     · refine { heap:=fun id ob hid=>?_,inj:=fun i j oi oj g' hi hj _ _=>?_,snd:=hcell,sep:=fun p v hp id ob hid=>?_,fmS:=hH.fmS,gl:=hH.gl,jst:=hH.jst }
       · cases id with
         | zero=>
           simp at hid
           subst hid
           simp only [aK]
           refine ⟨h1,by simpa [hlen] using h2,l'.map encStr,⟨by simp,.inr ⟨g,cap,_,by rw [hv0]; simp [hlen],hg0,k1,by simpa [hlen] using hle,hcap,by rw [fU]; exact hsz,?_⟩⟩,mK fun s hs=>hsl s (hmem s hs),hbo,hbl⟩
           have:=pF (l:=l') (cur:=cur) (by rw [hsz]; omega)
           simpa using this
         | succ id=>simp at hid
       · have:i=0:=by cases i<;>simp at hi ⊢
         have:j=0:=by cases j<;>simp at hj ⊢
         omega
       · have:id=0:=by cases id<;>simp at hid ⊢
         subst this
         exact hH.sep p v hp 0 _ rfl
     · intro i hi u d hu hd
       simp only [List.mem_singleton] at hi
       subst hi
       simp at hu hd
       subst hu hd
       simp only [rep,XX]
       refine ⟨hc.1,by simp,fun e2 sz2 l2 h=>?_,fun _ _ _ _ h=>by simp at h,fun o h hn=>by simp at h; subst h; cases hn⟩
       simp at h
       obtain ⟨rfl,rfl,rfl⟩:=h
       exact ⟨by simp [hlen],fun _=>hc0⟩
theorem FnH.of_cut {f:FuncId} {e:TypeId} {l l':List (List UInt8)} (hlen:l'.length≤l.length) (hmem:∀ s∈l',s∈l) (hcall:∀ args w,(callFunc f args).run P w=.ok (.enter f args) w)
 (hnil:l=[]→∀ (p:Option Addr) (cap:Nat) (w:World),Calls P f #[.slice p 0 cap] w fun e w'=>e=.returned (.slice p 0 cap)∧w'=w)
 (hdo:∀ (g cap:Nat) (w:World),Holds encStr w g 0 l.toArray→l.length≤cap→Calls P f #[.slice (some ⟨g,0,none⟩) l.length cap] w fun e w'=>e=.returned (.slice (some ⟨g,0,none⟩) l'.length cap)∧∃ n,w'=putRow encStr (Sort.ahead w n) g 0 (l'++List.replicate (l.length - l'.length) []).toArray):
 FnH P f [] [.ref 0 l.length] [some (.arr e 1 (l.map .str))] (.ref 0 l'.length) [some (.arr e 1 (l'.map .str))]:=by
 intro M w κ cs J hJC hH hus o a Nx Q hN
 rw [hcall,Oper.upon_enter]
 obtain ⟨cl⟩:=cs
 simp only [aa] at hus
 obtain ⟨c,cs',rfl,hc,rfl⟩:=hus
 simp only [rep,XX] at hc
 have hc0:c=κ 0:=(hc.2.2.1 e 1 _ rfl).2 (by simp)
 have ho:=hH.heap 0 _ rfl
 simp only [aK] at ho
 obtain ⟨h1,h2,xs,hown,hrow,hbo,hbl⟩:=ho
 obtain ⟨rfl,hsl⟩:=mX hrow
 rcases hown.2 with ⟨hv0,h0⟩ | ⟨g,cap,cur,hv0,hg0,hcur,hle,hcap,hsz,htk⟩
 · have hl:l=[]:=by simpa using h0
   have hl':l'=[]:=by simpa [hl] using hlen
   subst hl hl'
   rw [hc0,hv0]
   refine (hnil rfl none 0 w).mono ?_
   rintro e' w' ⟨rfl,rfl⟩
   refine hN (.slice none 0 0) M w' κ ?_ (Und.refl _ _) hH (fun _ _ h=>h) (fun _ _ h=>.inl h) (fun i hi=>by cases hi)
   rw [hv0] at hc0
   subst hc0
   simp only [rep,XX]
   exact hc
 · have hlm:(l.map V.str).length=l.length:=by simp
   rw [hlm] at hle htk hv0
   have hgl:=(Array.getElem?_eq_some_iff.1 hcur).1
   have hbg:κ.bl 0 g:=(hbl g).2 (by rw [hv0]; rfl)
   rw [hc0,hv0]
   refine (hdo g cap w ?_ hle).mono ?_
   · intro j hj
     simp at hj
     have hj2:j < cur.size:=by omega
     have e1:cur[j]?=some (encStr (l[j])):=by
      have:=congrArg (·[j]?) htk
      simp only [List.getElem?_take,Nat.mul_one,if_pos hj,Array.getElem?_toList,List.getElem?_map] at this
      rw [this]; simp [hj]
     refine ⟨?_,?_⟩
     · simp [World.cell?,hcur,e1,hj]
     · simp [World.frozen?,hcur]
   · rintro e' w' ⟨rfl,n,hw'⟩
     obtain ⟨k1,k2,k3⟩:=uz (l:=l'++List.replicate (l.length - l'.length) []) (n:=n) (os:=#[]) hcur
     rw [grow_empty,←hw'] at k1 k2 k3
     have hos:w'.os=w.os∧w'.tape=w.tape∧w'.output=w.output:=by rw [hw']; exact ⟨rfl,rfl,rfl⟩
     have hU:Und (cI κ [some (.arr e 1 (l.map .str))] w [] ⟨[c]⟩ J) w w':=by
      refine ⟨hos.1,hos.2.1,hos.2.2,k3,fun k hk hns=>?_,fun k cu T z hk=>?_⟩
      · refine k2 k hk fun e0=>hns ?_
        subst e0
        exact ⟨0,_,rfl,hbg⟩
      · by_cases hkg:k=g
        · subst hkg
          rw [hcur] at hk
          cases hk
          exact ⟨_,_,_,k1,fU⟩
        · exact ⟨cu,T,z,by rw [k2 k (Array.getElem?_eq_some_iff.1 hk).1 hkg]; exact hk,rfl⟩
     have hcell:∀ p v,M p=some v→w'.cell? p=some v:=by
      intro p v hp
      have h5:=hH.snd p v hp
      have hne:p.block≠g:=fun e0=>hH.sep p v hp 0 _ rfl (by rw [e0]; exact hbg)
      have hlt:p.block < w.heap.size:=World.block_lt_of_cell? w p h5
      unfold World.cell? at h5 ⊢
      rw [k2 _ hlt hne]
      exact h5
     have hbl2:∀ g',(upd κ 0 (.slice (some ⟨g,0,none⟩) l'.length cap)).bl 0 g'↔κ.bl 0 g':=fun g'=>by
      rw [hbl g',hv0]
      simp [bS,blk]
     have htk2:(putCells encStr 0 (l'++List.replicate (l.length - l'.length) []).toArray cur).toList.take l'.length=l'.map encStr:=by
      have:=pF (l:=l'++List.replicate (l.length - l'.length) []) (cur:=cur) (by simp; omega)
      have h3:=congrArg (List.take l'.length) this
      rw [List.take_take,Nat.min_eq_left (by simp)] at h3
      rw [h3,List.map_append,List.take_append_of_le_length (by simp)]
      exact List.take_of_length_le (by simp)
     refine hN (.slice (some ⟨g,0,none⟩) l'.length cap) M w' (upd κ 0 (.slice (some ⟨g,0,none⟩) l'.length cap)) ?_ hU ?_ (fun _ _ h=>h) (fun _ _ h=>.inl h) (fun i hi=>by cases hi)
     · simp only [rep,XX]
       refine ⟨rfl,by simp,fun e2 sz2 l2 h=>?_,fun _ _ _ _ h=>by simp at h,fun o h hn=>by simp at h; subst h; cases hn⟩
       simp at h
       obtain ⟨rfl,rfl,rfl⟩:=h
       exact ⟨by simp,fun _=>bk.symm⟩
     · refine { heap:=fun id ob hid=>?_,inj:=fun i j oi oj g' hi hj _ _=>?_,snd:=hcell,sep:=fun p v hp id ob hid=>?_,fmS:=hH.fmS,gl:=hH.gl,jst:=hH.jst }
       · cases id with
         | zero=>
           simp at hid
           subst hid
           simp only [aK]
           refine ⟨h1,by simp at h2 ⊢; omega,l'.map encStr,⟨by simp,.inr ⟨g,cap,_,by rw [bk]; simp,hg0,k1,by simp; omega,hcap,by rw [fU]; exact hsz,by simpa using htk2⟩⟩,mK fun s hs=>hsl s (hmem s hs),fun g' hg'=>hbo g' ((hbl2 g').1 hg'),fun g'=>?_⟩
           rw [hbl2,hbl,hv0,bk]
           rfl
         | succ id=>simp at hid
       · have:i=0:=by cases i<;>simp at hi ⊢
         have:j=0:=by cases j<;>simp at hj ⊢
         omega
       · have:id=0:=by cases id<;>simp at hid ⊢
         subst this
         rw [hbl2]
         exact hH.sep p v hp 0 _ rfl
end
end Go.Abs
