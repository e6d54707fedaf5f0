/-
  From the model's operations to those of the abstract machine: what holds behind an operation's image holds behind the operation. No condition.
  What is handed over to others: the operation, its image; operations in a frame of a round. No condition.
  From the model's code to that of the abstract machine: what 'W' says of the image holds of the code. No condition.
  Operations in any order: what an operation looks at and what it turns, and that two that are apart may change places. No condition.
  Regions whose order is drawn, and whole code: what 'W' says of the image holds of the code. No condition.
  The image of a function's code, reckoned; and a function's contract from what 'W' says of the image. No condition.
  What 'simp' is told of the abstract machine: it goes through code step by step, and looks at nothing that lies ahead. No condition.
-/
import Derived.Test.YtloaikaippankaaGreatDoorTAbs1
import Derived.Laws.IdiomStrings
import Derived.Laws.RangeAny
import Derived.OrdersIn
import Derived.TacticsIn
import Derived.Deep.LoopGhost
import Derived.ScopeJumps
set_option linter.unusedVariables false
set_option linter.unusedSimpArgs false
set_option linter.unusedSectionVars false
section
namespace Go.Abs
open Go.RowKit
section
variable {P:Program} {N:Nat} {M0:Mem} {B:Bas} {w0:World} {κ:Kap} {M:Mem} {σ:St} {a:Act} {w w':World}
theorem ke {id:Nat} {old ob:Ob} {h:List (Option Ob)} (hid:h[id]?=some (some old)) {kv:Value} {kr:Nat→Value} {kb:Nat→Prop} {v:V} {c:Value} (hx:XX κ h v c)
 (hbox:∀ cs,ob=.box cs→(∃ cs',old=.box cs')∧kv=κ id)
 (harr:∀ e sz l,ob=.arr e sz l→∃ e' l',old=.arr e' sz l'∧l'.length≤l.length∧(l'.length=l.length→kv=κ id))
 (hmat:∀ e e2 sz rows,ob=.mat e e2 sz rows→∃ e' e2' rows',old=.mat e' e2' sz rows'∧rows'.length=rows.length∧kv=κ id∧(∀ j r,aL rows j=some r→(∃ r',aL rows' j=some r'∧r'.length≤r.length∧(r'.length=r.length→kr j=κ.row id j))∨∃ k,rows'[j]?=some (.g k)∧k < r.length)∧
   ∀ j k,rows[j]?=some (.g k)→(∃ r',aL rows' j=some r'∧r'.length≤k)∨∃ k',rows'[j]?=some (.g k')∧k'≤k)
 (hmp:ob.nam=true→old.nam=true∧kv=κ id:=by intro h; cases h):
 XX (bS κ id kv kr kb) (h.set id (some ob)) v c:=by
 have hlt:id < h.length:=(List.getElem?_eq_some_iff.1 hid).1
 have key:∀ {i:Nat} {o:Ob},(h.set id (some ob))[i]?=some (some o)→(i=id∧ob=o)∨(i≠id∧h[i]?=some (some o)):=by
  intro i o hl
  rw [List.getElem?_set] at hl
  split at hl
  · rename_i he
    subst he
    simp only [hlt,if_true,Option.some.injEq] at hl
    exact .inl ⟨rfl,hl⟩
  · rename_i he
    exact .inr ⟨fun e=>he e.symm,hl⟩
 cases v<;>simp only [XX] at hx ⊢
 case ref i n=>
  refine ⟨hx.1,by simpa using hx.2.1,fun e sz l hl=>?_,fun e e2 sz l hl=>?_,fun o hl hn=>by
   rcases key hl with ⟨rfl,ho⟩ | ⟨he,hl⟩
   · subst ho
     obtain ⟨h1,h2⟩:=hmp hn
     rw [bf,h2]
     exact hx.2.2.2.2 _ hid h1
   · rw [(bJ he).1]
     exact hx.2.2.2.2 _ hl hn⟩
  · rcases key hl with ⟨rfl,ho⟩ | ⟨he,hl⟩
    · obtain ⟨e',l',h1,h2,h3⟩:=harr e sz l ho
      subst h1
      obtain ⟨g1,g2⟩:=hx.2.2.1 e' sz l' hid
      refine ⟨by omega,fun hn=>?_⟩
      rw [bf,h3 (by omega)]
      exact g2 (by omega)
    · rw [(bJ he).1]
      exact hx.2.2.1 e sz l hl
  · rcases key hl with ⟨rfl,ho⟩ | ⟨he,hl⟩
    · obtain ⟨e',e2',l',h1,h2,h3,h4⟩:=hmat e e2 sz l ho
      subst h1
      obtain ⟨g1,g2⟩:=hx.2.2.2.1 e' e2' sz l' hid
      refine ⟨by omega,fun hn=>?_⟩
      rw [bf,h3]
      exact g2 (by omega)
    · rw [(bJ he).1]
      exact hx.2.2.2.1 e e2 sz l hl
 case ptr i off=>
  refine ⟨hx.1,by simpa using hx.2.1,fun cs hl=>?_⟩
  rcases key hl with ⟨rfl,ho⟩ | ⟨he,hl⟩
  · obtain ⟨⟨cs',h1⟩,h2⟩:=hbox cs ho
    subst h1
    rw [bf,h2]
    exact hx.2.2 cs' hid
  · rw [(bJ he).1]
    exact hx.2.2 cs hl
 case eptr i n j off=>
  refine ⟨hx.1,by simpa using hx.2.1,fun e sz l hl=>?_,fun e e2 sz l hl=>?_⟩
  · rcases key hl with ⟨rfl,ho⟩ | ⟨he,hl⟩
    · obtain ⟨e',l',h1,h2,h3⟩:=harr e sz l ho
      subst h1
      obtain ⟨g1,g2⟩:=hx.2.2.1 e' sz l' hid
      refine ⟨by omega,fun hn hj=>?_⟩
      rw [bf,h3 (by omega)]
      exact g2 (by omega) hj
    · rw [(bJ he).1]
      exact hx.2.2.1 e sz l hl
  · rcases key hl with ⟨rfl,ho⟩ | ⟨he,hl⟩
    · obtain ⟨e',e2',l',h1,h2,h3,h4⟩:=hmat e e2 sz l ho
      subst h1
      obtain ⟨g1,g2⟩:=hx.2.2.2 e' e2' sz l' hid
      refine ⟨by omega,fun hn hj=>?_⟩
      rw [bf,h3]
      exact g2 (by omega) hj
    · rw [(bJ he).1]
      exact hx.2.2.2 e e2 sz l hl
 case fseq sz l=>exact hx
 case mref i j n=>
  refine ⟨hx.1,by simpa using hx.2.1,fun e e2 sz l hl=>?_⟩
  rcases key hl with ⟨rfl,ho⟩ | ⟨he,hl⟩
  · obtain ⟨e',e2',l',h1,h2,h3,h4,h8⟩:=hmat e e2 sz l ho
    subst h1
    obtain ⟨q1,q2⟩:=hx.2.2 e' e2' sz l' hid
    refine ⟨fun r hr=>?_,fun k hk=>?_⟩
    · rcases h4 j r hr with ⟨r',h5,h6,h7⟩ | ⟨k,h5,h6⟩
      · obtain ⟨g1,g2⟩:=q1 r' h5
        refine ⟨by omega,fun hn=>?_⟩
        rw [kh,h7 (by omega)]
        exact g2 (by omega)
      · have:=q2 k h5
        exact ⟨by omega,fun hn=>by omega⟩
    · rcases h8 j k hk with ⟨r',h5,h6⟩ | ⟨k',h5,h6⟩
      · have:=(q1 r' h5).1; omega
      · have:=q2 k' h5; omega
  · rw [(bJ he).2.1]
    exact hx.2.2 e e2 sz l hl
 case mptr i j n k off=>
  refine ⟨hx.1,by simpa using hx.2.1,fun e e2 sz l hl=>?_⟩
  rcases key hl with ⟨rfl,ho⟩ | ⟨he,hl⟩
  · obtain ⟨e',e2',l',h1,h2,h3,h4,h8⟩:=hmat e e2 sz l ho
    subst h1
    obtain ⟨q1,q2⟩:=hx.2.2 e' e2' sz l' hid
    refine ⟨fun r hr=>?_,fun q hk=>?_⟩
    · rcases h4 j r hr with ⟨r',h5,h6,h7⟩ | ⟨k',h5,h6⟩
      · obtain ⟨g1,g2⟩:=q1 r' h5
        refine ⟨by omega,fun hn hk=>?_⟩
        rw [kh,h7 (by omega)]
        exact g2 (by omega) hk
      · have:=q2 k' h5
        exact ⟨by omega,fun hn _=>by omega⟩
    · rcases h8 j q hk with ⟨r',h5,h6⟩ | ⟨k',h5,h6⟩
      · have:=(q1 r' h5).1; omega
      · have:=q2 k' h5; omega
  · rw [(bJ he).2.1]
    exact hx.2.2 e e2 sz l hl
theorem iC {g:Nat} (hg:B.own g) (cs:Array Value) (hsz:∀ cur T z,w.heap[g]?=some (.cells cur T z)→cs.size=cur.size):Und B w (w.setRow g cs):=
 ⟨rfl,rfl,rfl,by simp,fun k hk hs=>setRow_other w g k cs (fun e=>by subst e; rcases hg with h | h; omega; exact hs h),fun k cur T z hc=>by
   by_cases hk:k=g
   · subst hk
     exact ⟨cs,T,z,setRow_heap w k cur cs T z hc,hsz cur T z hc⟩
   · exact ⟨cur,T,z,by rw [setRow_other w g k cs hk]; exact hc,rfl⟩⟩
theorem EH {n:Nat} {row:Option Nat} (hg:w.grownBy w' row) (hr:∀ g,row=some g→n≤g) (hB:n≤w.heap.size):Below n w w':=
 ⟨hg.os,hg.tape,hg.output,hg.size,fun k hk=>hg.block k (by omega) (fun e=>by have:=hr k e.symm; omega)⟩
theorem mO {e sz n n' b:Nat} {v:Value} {row:Array Value} {xs ys:List Value} (h1:w.ownsRow 0 e sz v n xs) (h2:(w.setRow b row).ownsRow 0 e sz v n' ys) (hb:blk v=some b) (cur:Array Value) (T:TypeId) (z:Nat × Nat) (hc:w.heap[b]?=some (Obj.cells cur T z)):row.size=cur.size:=by
 rcases h1.2 with ⟨h3,_⟩ | ⟨g,cap,cur1,h3,_,h4,_,_,h5,_⟩
 · rw [h3] at hb; cases hb
 · rcases h2.2 with ⟨h6,_⟩ | ⟨g',cap',cur2,h6,_,h7,_,_,h8,_⟩
   · rw [h6] at hb; cases hb
   · rw [h3] at hb h6
     simp only [blk,Option.some.injEq] at hb
     subst hb
     simp only [Value.slice.injEq,Option.some.injEq,Addr.mk.injEq,and_true] at h6
     obtain ⟨rfl,_,rfl⟩:=h6
     rw [hc] at h4
     simp only [Option.some.injEq,Obj.cells.injEq] at h4
     obtain ⟨rfl,_,_⟩:=h4
     rw [setRow_heap w g cur row T z hc] at h7
     simp only [Option.some.injEq,Obj.cells.injEq] at h7
     obtain ⟨rfl,_,_⟩:=h7
     rw [h5,h8]
theorem JB {row:Option Nat} (hg:w.grownBy w' row) (hr:∀ g,row=some g→B.own g) (hB:B.n≤w.heap.size) (hs:Siz w w'):Und B w w':=
 ⟨hg.os,hg.tape,hg.output,hg.size,fun k hk hs=>hg.block k (by omega) (fun e=>by rcases hr k e.symm with h | h; omega; exact hs h),hs⟩
theorem Hz {e sz:Nat} {val:Value} {l:List V} {xs:List Value} (h2:w.ownsRow 0 e sz val l.length xs) (h3:al M sz l xs) (h0:0 < sz) (h1:l.length≤140737488355328):
 ∃ (ad:Option Addr) (cap:Nat),val=.slice ad l.length cap∧l.length≤140737488355328∧0 < sz∧(l=[]∨∃ (b off:Nat) (xs:List Value),ad=some ⟨b,off,none⟩∧al M sz l xs∧∀ j u,xs[j]?=some u→w.cell? ((⟨b,off,none⟩:Addr).add j)=some u):=by
 rcases h2.2 with ⟨h4,h5⟩ | ⟨g,cap,cur,h4,h5,h6,h7,h8,h9⟩
 · exact ⟨none,0,by rw [h4,h5],h1,h0,.inl (List.eq_nil_of_length_eq_zero h5)⟩
 · exact ⟨some ⟨g,0,none⟩,cap,by rw [h4],h1,h0,.inr ⟨g,0,xs,rfl,h3,fun j u hu=>h2.cells (g:=g) (by rw [h4]; rfl) j u hu⟩⟩
theorem Oz (H:Rel N M0 B w0 κ M σ a w) {v:V} {c:Value} {sz:Nat} {l:List V} (hr:rep M (XX κ σ.h) v c) (hp:src σ.h v=some (.seq sz l)):
 ∃ (ad:Option Addr) (cap:Nat),c=.slice ad l.length cap∧l.length≤140737488355328∧0 < sz∧(l=[]∨∃ (b off:Nat) (xs:List Value),ad=some ⟨b,off,none⟩∧al M sz l xs∧∀ j u,xs[j]?=some u→w.cell? ((⟨b,off,none⟩:Addr).add j)=some u):=by
 cases v<;>simp only [src,pur] at hp<;>try (cases hp; done)
 case nil sz'=>
  cases hp
  simp only [rep] at hr
  exact ⟨none,0,hr.1,by simp,hr.2,.inl rfl⟩
 case seq sz' l'=>
  cases hp
  simp only [rep] at hr
  obtain ⟨ad,cap,h1,_,h2',h2,h3⟩:=hr
  refine ⟨ad,cap,h1,h2',h2,?_⟩
  rcases h3 with h3 | ⟨b,off,h4,h5⟩
  · exact .inl h3
  · obtain ⟨xs,g1,g2⟩:=qC h5
    exact .inr ⟨b,off,xs,h4,g1,fun j u hu=>by rw [Addr.add_lit]; exact H.snd _ _ (g2 j u hu)⟩
 case fseq sz' l'=>
  cases hp
  simp only [rep,XX] at hr
  obtain ⟨_,ad,cap,h1,_,h2',h2,h3⟩:=hr
  refine ⟨ad,cap,h1,h2',h2,?_⟩
  rcases h3 with h3 | ⟨b,off,h4,h5⟩
  · exact .inl h3
  · obtain ⟨xs,g1,g2⟩:=qC (m4 H.sub.fmS _ _ _ _ h5)
    exact .inr ⟨b,off,xs,h4,g1,fun j u hu=>by rw [Addr.add_lit]; exact H.snd _ _ (g2 j u hu)⟩
 case ref id n=>
  split at hp
  · rename_i e sz' l' hh
    split at hp
    · rename_i hn
      cases hp
      simp only [rep,XX] at hr
      have hc:=(hr.2.2.1 e _ _ hh).2 hn
      obtain ⟨h0,h1,xs,h2,h3,_⟩:=H.heap id _ hh
      rw [hc]
      exact Hz h2 h3 h0 h1
    · cases hp
  · cases hp
 case mref id i n=>
  simp only [pur2] at hp
  split at hp
  · rename_i e e2 sz' rows hh
    split at hp
    · rename_i r hrr
      split at hp
      · rename_i hn
        cases hp
        simp only [rep,XX] at hr
        have hc:=((hr.2.2 _ _ _ _ hh).1 _ hrr).2 hn
        obtain ⟨h0,_,_,h5,_⟩:=H.heap id _ hh
        obtain ⟨h1,ys,h2,h3⟩:=h5 i _ hrr
        rw [hc]
        exact Hz h2 h3 h0 h1
      · cases hp
    · cases hp
  · cases hp
 all_goals first
  | (obtain ⟨_,_,h⟩:=Option.map_eq_some_iff.1 hp; cases h; done)
  | (split at hp<;>cases hp; done)
theorem HW {l:List V} (h:¬l=[]):0 < l.length:=by
 cases l with
 | nil=>exact (h rfl).elim
 | cons _ _=>simp
theorem k9 {base e size n:Nat} {v:Value} {xs:List Value} (h:w.ownsRow base e size v n xs):(v=.slice none 0 0∧n=0)∨∃ g cap,v=.slice (some ⟨g,0,none⟩) n cap:=by
 rcases h.2 with h | ⟨g,cap,cur,h,_⟩
 · exact .inl h
 · exact .inr ⟨g,cap,h⟩
theorem Ig (H:Rel N M0 B w0 κ M σ a w) {ty t e':TypeId} {i:TypeInfo} {z:Value} {sz' by':Nat} (ht:P.underlying t=some (.slice e')) (hi:P.info? e'=some i) (hz:i.zero=some z)
 (hs:i.size=sz') (hby:i.bytes=by') (hb0:0 < by') (hzs:z.cells.size=sz') (hn:0 < sz') {d:Option Nat} (hd:∀ t,d=some t→t < N∧t ∉ B.ps) {id:Nat} {l0 l:List V} (ha:σ.h[id]?=some (some (.arr e' sz' l0))) {cy:Value} {ad:Option Addr} {cap:Nat}
 (hcy:cy=.slice ad l.length cap) (hll:l.length≤140737488355328) (hrow:l=[]∨∃ (b off:Nat) (xs:List Value),ad=some ⟨b,off,none⟩∧al M sz' l xs∧∀ j u,xs[j]?=some u→w.cell? ((⟨b,off,none⟩:Addr).add j)=some u)
 (hb:(l0.length + l.length) * by'≤140737488355328) {Nx:Act→World→Prop} (hK:∀ κ' M' a' w',Rel N M0 B w0 κ' M' ({ σ with h:=σ.h.set id (some (.arr e' sz' (l0++l))) }.put d (.ref id (l0.length + l.length))) a' w'→Nx a' w'):
 ∃ c w1,(Builtin.append_ #[t,t] ty #[κ id,cy]).run P w=.ok c w1∧Nx (a.put d c) w1:=by
 have hBw:B.n≤w.heap.size:=by rw [H.base]; exact H.blw.size
 obtain ⟨h0,h1,xs0,ho0,hrow0,hown0,hbl0⟩:=H.heap id _ ha
 rw [hcy]
 have fin:∀ (v':Value) (w':World) (xs:List Value),w'.ownsRow 0 e' sz' v' (l0.length + l.length) (xs0++xs)→al M sz' l xs→(l=[]→v'=κ id)→l0.length + l.length≤140737488355328→Und B w w'→
  (∀ k,k < w.heap.size→¬κ.bl id k→w'.heap[k]?=w.heap[k]?)→(∀ g,blk v'=some g→κ.bl id g∨w.heap.size≤g)→Nx (a.put d v') w':=by
  intro v' w' xs g1 hrow g0 hle hBl hoth g3
  have hX:∀ v c,XX κ σ.h v c→XX (upd κ id v') (σ.h.set id (some (Ob.arr e' sz' (l0++l)))) v c:=fun v c hx=>ke ha hx (fun cs h=>by cases h) (fun e2 sz2 l2 h=>by
   cases h
   refine ⟨e',l0,rfl,by simp,fun hlen=>g0 ?_⟩
   simp at hlen
   exact hlen) (fun _ _ _ _ h=>by cases h)
  have hlt:id < σ.h.length:=(List.getElem?_eq_some_iff.1 ha).1
  have H':=H.setOb ha hBl hoth g3 hX (by
   simp only [aK]
   exact ⟨hn,by simpa using hle,xs0++xs,by rw [bk]; simpa using g1,pE hrow0 hrow,fun g hg=>by
    rw [aI] at hg
    rcases g3 g hg with h | h
    · exact hown0 g h
    · exact .inl (by omega),fun g=>by rw [aI,bf]⟩)
  refine hK _ _ _ _ (H'.put' hd ?_)
  simp only [rep,XX]
  refine ⟨?_,by simpa using hlt,fun e2 sz2 l2 h2=>?_,fun e2 sz2 l2 l3 h2=>by simp [List.getElem?_set,hlt] at h2,fun o2 h2 hn=>by simp [List.getElem?_set,hlt] at h2; subst h2; cases hn⟩
  · rcases k9 g1 with ⟨h,_⟩ | ⟨g,cap,h⟩<;>rw [h]<;>rfl
  · simp only [List.getElem?_set,if_true,hlt,Option.some.injEq,Ob.arr.injEq] at h2
    obtain ⟨rfl,rfl,rfl⟩:=h2
    exact ⟨by simp,fun _=>bk.symm⟩
 by_cases hz0:l=[]
 · subst hz0
   rcases k9 ho0 with ⟨hv0,hl0⟩ | ⟨g,cp,hv0⟩
   · have hr:=gI (P:=P) (ty:=ty) ht hi none ad 0 0 cap (Nat.le_refl _) w
     rw [hv0]
     refine ⟨_,_,hr,fin _ w [] ?_ (by simp [al]) (fun _=>hv0.symm) (by simpa using h1) (Und.refl _ _) (fun _ _ _=>rfl) (fun g hg=>.inl ((hbl0 g).2 (by rw [hv0]; exact hg)))⟩
     simpa [←hv0] using ho0
   · have hcp:l0.length≤cp:=by
      rcases ho0.2 with ⟨h,_⟩ | ⟨g',cap',cur,h,_,_,h7,_⟩
      · rw [h] at hv0; cases hv0
      · rw [h] at hv0; cases hv0; exact h7
     have hr:=gI (P:=P) (ty:=ty) ht hi (some ⟨g,0,none⟩) ad l0.length cp cap hcp w
     rw [hv0]
     refine ⟨_,_,hr,fin _ w [] ?_ (by simp [al]) (fun _=>hv0.symm) (by simpa using h1) (Und.refl _ _) (fun _ _ _=>rfl) (fun g hg=>.inl ((hbl0 g).2 (by rw [hv0]; exact hg)))⟩
     simpa [←hv0] using ho0
 · rcases hrow with hrow | ⟨b,off,xs,had,hrow,hcells⟩
   · exact (hz0 hrow).elim
   · have hlen:=bO hrow
     have hbytes:l0.length + l.length≤(l0.length + l.length) * by':=Nat.le_mul_of_pos_right _ hb0
     obtain ⟨v',w',hr,g1,g2,g3,g4⟩:=lR (P:=P) (ty:=ty) (base:=0) ht hi hz hs hby hzs hn ho0 ⟨b,off,none⟩ l.length cap xs hlen hcells (k7 hrow) (HW hz0)
      hb (by simp only [maxLen]; omega) (Nat.zero_le _)
     rw [had]
     have hown:(κ id).ownBlock=blk (κ id):=by
      rcases k9 ho0 with ⟨hv0,_⟩ | ⟨g,cp,hv0⟩<;>rw [hv0]<;>rfl
     rw [hown] at g2
     refine ⟨v',w',hr,fin v' w' xs g1 hrow (fun h=>(hz0 h).elim) ?_ (JB g2 (fun g hg=>(H.blk_lt ha ((hbl0 g).2 hg)).1) hBw g4) (fun k hk hne=>g2.block k hk (fun e=>hne ((hbl0 k).2 e.symm))) (fun g hg=>(g3 g hg).imp (fun h=>(hbl0 g).2 h) (fun h=>h))⟩
     omega
theorem oL {rows:List Rw} {i j:Nat} {x:Rw} {r:List V} (h:aL (rows.set i x) j=some r):(j=i∧i < rows.length∧x=.a r)∨(j≠i∧aL rows j=some r):=by
 have h':=(mU h).1
 rw [List.getElem?_set] at h'
 split at h'
 · rename_i he
   subst he
   split at h'
   · rename_i hl
     simp only [Option.some.injEq] at h'
     exact .inl ⟨rfl,hl,h'⟩
   · cases h'
 · rename_i he
   exact .inr ⟨fun e=>he e.symm,by unfold aL; rw [h']⟩
theorem Ay {rows:List Rw} {i k:Nat} (h:mT rows i=some k):(∃ r,aL rows i=some r∧r.length=k)∨rows[i]?=some (.g k):=by
 unfold mT at h
 split at h
 · rename_i r hr; cases h; exact .inl ⟨r,by unfold aL; rw [hr],rfl⟩
 · rename_i k hr; cases h; exact .inr hr
 · cases h
theorem IQ {rows:List Rw} {i k:Nat} (h:mT rows i=some k):i < rows.length:=by
 rcases Ay h with ⟨r,h1,_⟩ | h
 · exact (mU h1).2
 · exact (List.getElem?_eq_some_iff.1 h).1
theorem Rel.detach (H:Rel N M0 B w0 κ M σ a w) {id:Nat} {e e2 sz i:Nat} {rows:List Rw} {r:List V} (hm:σ.h[id]?=some (some (.mat e e2 sz rows))) (hr:aL rows i=some r):
 ∃ κ',Rel N M0 B w0 κ' M { σ with h:=σ.h.set id (some (.mat e e2 sz (rows.set i (.g r.length))))++[some (.arr e2 sz r)] } a w∧κ' σ.h.length=κ.row id i:=by
 obtain ⟨h0,h1,⟨xs,h2,h3,h4⟩,h5,h6,h7,hown,hbl⟩:=H.heap id _ hm
 obtain ⟨q1,ys,q2,q3⟩:=h5 i r hr
 have hlt:id < σ.h.length:=(List.getElem?_eq_some_iff.1 hm).1
 have hX:∀ v c,XX κ σ.h v c→XX (bS κ id (κ id) (κ.row id) (fun g=>blk (κ id)=some g∨∃ j s,aL (rows.set i (.g r.length)) j=some s∧blk (κ.row id j)=some g)) (σ.h.set id (some (Ob.mat e e2 sz (rows.set i (.g r.length))))) v c:=fun v c hx=>
  ke hm hx (fun _ h=>by cases h) (fun _ _ _ h=>by cases h) (fun e' e2' sz' rows' h=>by
   cases h
   refine ⟨e,e2,rows,rfl,by simp,rfl,fun j s hs=>?_,fun j k hk=>?_⟩
   · rcases oL hs with ⟨_,_,h⟩ | ⟨_,h⟩
     · cases h
     · exact .inl ⟨s,h,Nat.le_refl _,fun _=>rfl⟩
   · rw [List.getElem?_set] at hk
     split at hk
     · rename_i he
       subst he
       split at hk
       · cases hk
         exact .inl ⟨r,hr,Nat.le_refl _⟩
       · cases hk
     · exact .inr ⟨k,hk,Nat.le_refl _⟩)
 have rs:∀ {j:Nat} {s:List V},aL (rows.set i (.g r.length)) j=some s→j≠i∧aL rows j=some s:=by
  intro j s hs
  rcases oL hs with ⟨_,_,h⟩ | h
  · cases h
  · exact h
 have H1:=H.setOb (ob:=.mat e e2 sz (rows.set i (.g r.length))) hm (Und.refl _ w) (fun _ _ _=>rfl) (kv:=κ id) (kr:=κ.row id) (kb:=fun g=>blk (κ id)=some g∨∃ j s,aL (rows.set i (.g r.length)) j=some s∧blk (κ.row id j)=some g) (fun g hg=>.inl ((hbl g).2 (hg.imp (fun h=>h) fun ⟨j,s,k1,k2⟩=>⟨j,s,(rs k1).2,k2⟩))) hX (by
  simp only [aK]
  rw [bf,kh,aI]
  refine ⟨h0,by simpa using h1,⟨xs,by simpa using h2,h3,fun j s hs=>h4 j s (rs hs).2⟩,fun j s hs=>h5 j s (rs hs).2,fun j k s s' g hs hs'=>h6 j k s s' g (rs hs).2 (rs hs').2,fun j s g hs=>h7 j s g (rs hs).2,fun g hg=>?_,fun g=>Iff.rfl⟩
  exact hown g ((hbl g).2 (hg.imp (fun h=>h) fun ⟨j,s,k1,k2⟩=>⟨j,s,(rs k1).2,k2⟩)))
 have hnb:∀ g,blk (κ.row id i)=some g→κ.bl id g:=fun g hg=>(hbl g).2 (.inr ⟨i,r,hr,hg⟩)
 have hlen:(σ.h.set id (some (Ob.mat e e2 sz (rows.set i (.g r.length))))).length=σ.h.length:=by simp
 have H2:=H1.newOb' (w':=w) (ob:=.arr e2 sz r) (Below.refl _ _) (kv:=κ.row id i) (kr:=fun _=>Go.undef) (kb:=fun g=>blk (κ.row id i)=some g) (fun g hg j oj hj hj'=>by
  simp only at hj
  rw [List.getElem?_set] at hj
  split at hj
  · rename_i he
    subst he
    rw [aI] at hj'
    rcases hj' with h | ⟨k,s,k1,k2⟩
    · exact h7 i r g hr hg h
    · exact (rs k1).1 (h6 k i s r g (rs k1).2 hr k2 hg)
  · rename_i he
    rw [(bJ (fun e=>he e.symm)).2.2] at hj'
    exact he (H.inj id j _ oj g hm hj (hnb g hg) hj')) (fun p v hp hg=>H.sep p v hp id _ hm (hnb _ hg)) (by
  simp only [aK]
  rw [bf,aI]
  exact ⟨h0,q1,ys,q2,q3,fun g hg=>hown g (hnb g hg),fun g=>Iff.rfl⟩)
 rw [hlen] at H2
 exact ⟨_,H2,bf⟩
theorem uv {sz:Nat}:∀ (b:Nat) {l:List V} {xs:List Value},al M sz l xs→al M sz (l.take b) (xs.take (b * sz))
 | 0,l,xs,h=>by simp [al]
 | b + 1,[],xs,h=>by simp only [al] at h; simp [h,al]
 | b + 1,v::vs,xs,h=>by
   simp only [al] at h
   obtain ⟨y,rest,rfl,h1,h2,h3,h4⟩:=h
   simp only [List.take_succ_cons,al]
   refine ⟨y,rest.take (b * sz),?_,h1,h2,h3,uv b h4⟩
   have hl:y.cells.toList.length=sz:=by simpa using h2
   rw [List.take_append,hl,List.take_of_length_le (by rw [Nat.add_mul]; omega)]
   congr 2
   rw [Nat.add_mul]; omega
theorem HS {t:Nat} {f:FuncId}:∀ {l:List (Nat × FuncId)},lkF l t=some f→(t,f)∈l
 | [],h=>by simp [lkF] at h
 | (u,g)::l,h=>by
   simp only [lkF] at h
   split at h
   · rename_i he; subst he; cases h; simp
   · exact List.mem_cons_of_mem _ (HS h)
theorem L7 {name:String} {t:TypeId} {x:Nat × FuncId} (h:O6 P name t=some x):x.1=t:=by
 unfold O6 at h
 split at h
 · split at h
   · split at h<;>first | (cases h; done) | (cases h; rfl)
   · cases h
 · cases h
theorem FX {name:String} {t:TypeId} {f:FuncId} (h:lkF (Rs P name) t=some f) (n:Nat) (v:Value) (w:World):(method (n + 1) t v name).run P w=.ok (f,v) w:=by
 obtain ⟨i,_,hi⟩:=List.mem_filterMap.1 (HS h)
 have:=L7 hi
 simp only at this
 subst this
 unfold O6 at hi
 split at hi
 · rename_i ti hti
   split at hi
   · rename_i m hm
     split at hi
     · cases hi
     · rename_i hp hf hu
       cases hi
       simp [method,typeInfo,hti,hm,hp,follow,hf,receiverAt,run_underlying hu,Place.get]
     · rename_i d hne hp hf hu
       cases hi
       cases d<;>first | exact (hne _ rfl).elim | simp [method,typeInfo,hti,hm,hp,follow,hf,receiverAt,run_underlying hu,Place.get]
     · cases hi
   · cases hi
 · cases hi
theorem Rel.trunc (H:Rel N M0 B w0 κ M σ a w) {id:Nat} {e sz b:Nat} {l:List V} (hm:σ.h[id]?=some (some (.arr e sz l))) (hb:b≤l.length) {ad:Option Addr} {n cap:Nat} (hc:κ id=.slice ad n cap):
 ∃ κ',Rel N M0 B w0 κ' M { σ with h:=σ.h.set id none++[some (.arr e sz (l.take b))] } a w∧κ' σ.h.length=.slice ad b cap:=by
 obtain ⟨h0,h1,xs,h2,h3,hown,hbl⟩:=H.heap id _ hm
 have hlt:id < σ.h.length:=(List.getElem?_eq_some_iff.1 hm).1
 have hlen:(σ.h.set id none).length=σ.h.length:=by simp
 have H1:=H.drop id
 have hbk:∀ g,blk (.slice ad b cap)=some g→κ.bl id g:=fun g hg=>(hbl g).2 (by rw [hc]; cases ad<;>exact hg)
 have H2:=H1.newOb' (w':=w) (ob:=.arr e sz (l.take b)) (Below.refl _ _) (kv:=.slice ad b cap) (kr:=fun _=>Go.undef) (kb:=fun g=>blk (.slice ad b cap)=some g) (fun g hg j oj hj hj'=>by
  simp only at hj
  rw [List.getElem?_set] at hj
  split at hj
  · first | (cases hj; done) | (split at hj<;>cases hj)
  · rename_i he
    exact he (H.inj id j _ oj g hm hj (hbk g hg) hj')) (fun p v hp hg=>H.sep p v hp id _ hm (hbk _ hg)) (by
  simp only [aK]
  rw [bf,aI]
  refine ⟨h0,by simp; omega,xs.take (b * sz),?_,uv b h3,fun g hg=>hown g (hbk g hg),fun g=>Iff.rfl⟩
  have hxl:=bO h3
  refine ⟨by simp only [List.length_take,hxl]; rw [Nat.min_eq_left hb,Nat.min_eq_left (Nat.mul_le_mul_right _ hb)],?_⟩
  rcases h2.2 with ⟨h4,h5⟩ | ⟨g,cap',cur,h4,h5,h6,h7,h8,h9,h10⟩
  · rw [hc] at h4
    cases h4
    exact .inl ⟨by rw [show b=0 by omega],by simp [show b=0 by omega]⟩
  · rw [hc] at h4
    cases h4
    refine .inr ⟨g,_,cur,by rw [List.length_take,Nat.min_eq_left hb],h5,h6,by rw [List.length_take,Nat.min_eq_left hb]; omega,h8,h9,?_⟩
    · rw [List.length_take,Nat.min_eq_left hb,←h10]
      simp [List.take_take,Nat.min_eq_left (Nat.mul_le_mul_right sz hb)])
 rw [hlen] at H2
 exact ⟨_,H2,bf⟩
theorem J2 (H:Rel N M0 B w0 κ M σ a w) {ty t e:TypeId} {x y:Operand} {x' y':AO} {i:TypeInfo} {z:Value} {n by':Nat} (ht:P.underlying t=some (.slice e)) (hi:P.info? e=some i) (hz:i.zero=some z)
 (hs:i.size=n) (hby:i.bytes=by') (hb0:0 < by') (hzs:z.cells.size=n) (hn:0 < n) (hx:cO P t x=some x') (hy:cO P t y=some y') {d:Option Nat} (hd:∀ t,d=some t→t < N∧t ∉ B.ps) {Φ:Ctr} {K:St→Prop}
 (hW:af Φ d (.app x' y' e n by') K σ) {Nx:Act→World→Prop} (hK:∀ κ' M' σ' a' w',K σ'→Rel N M0 B w0 κ' M' σ' a' w'→Nx a' w'):
 ∃ c w1,(Builtin.append_ #[t,t] ty #[a.eval x,a.eval y]).run P w=.ok c w1∧Nx (a.put d c) w1:=by
 have hBw:B.n≤w.heap.size:=by rw [H.base]; exact H.blw.size
 simp only [af] at hW
 split at hW
 · rename_i u v hu hv
   split at hW
   · rename_i sz l hl
     obtain ⟨rfl,hW⟩:=hW
     have hrx:=H.op hx hu
     obtain ⟨ad,cap,hcy,hll,_,hrow⟩:=Oz H (H.op hy hv) hl
     split at hW
     · -- nil
       rename_i sz0
       obtain ⟨hb,hW⟩:=hW
       simp only [rep] at hrx
       rw [hrx.1,hcy]
       have fin:∀ (v':Value) (w':World) (xs:List Value),w'.ownsRow 0 e sz v' l.length xs→al M sz l xs→Below w.heap.size w w'→(∀ g,blk v'=some g→w.heap.size≤g)→Nx (a.put d v') w':=by
        intro v' w' xs g1 hrow hBl g3
        have ho:aK (upd κ σ.h.length v') M (XX (upd κ σ.h.length v') (σ.h++[some (Ob.arr e sz l)])) B w' σ.h.length (.arr e sz l):=by
         simp only [aK]
         exact ⟨hn,hll,xs,by rw [bk]; exact g1,hrow,fun g hg=>.inl (by rw [aI] at hg; have:=g3 g hg; omega),fun g=>by rw [aI,bf]⟩
        have H':=H.newOb hBl g3 ho
        refine hK _ _ _ _ _ hW (H'.put' hd ?_)
        simp only [rep,XX]
        refine ⟨?_,by simp,fun e2 sz2 l2 h2=>?_,fun e2 sz2 l2 l3 h2=>by simp at h2,fun o2 h2 hn=>by simp at h2; subst h2; cases hn⟩
        · rcases k9 g1 with ⟨h,_⟩ | ⟨g,cap,h⟩<;>rw [h]<;>rfl
        · simp at h2
          obtain ⟨rfl,rfl,rfl⟩:=h2
          exact ⟨Nat.le_refl _,fun _=>bk.symm⟩
       by_cases h0:l=[]
       · subst h0
         have hr:=gI (P:=P) (ty:=ty) ht hi none ad 0 0 cap (Nat.le_refl _) w
         exact ⟨_,_,hr,fin _ w [] (World.ownsRow_nil w 0 e sz) (by simp [al]) (Below.refl _ _) (fun g hg=>by cases hg)⟩
       · rcases hrow with hrow | ⟨b,off,xs,had,hrow,hcells⟩
         · exact (h0 hrow).elim
         · have hlen:=bO hrow
           obtain ⟨v',w',hr,g1,g2,g3,g4⟩:=lR (P:=P) (ty:=ty) (base:=0) ht hi hz hs hby hzs hn (World.ownsRow_nil w 0 e sz) ⟨b,off,none⟩ l.length cap xs hlen hcells (k7 hrow) (HW h0)
            (by simpa using hb) (by simp only [maxLen]; omega) (Nat.zero_le _)
           rw [had]
           refine ⟨v',w',hr,fin v' w' xs (by simpa using g1) hrow (EH g2 (fun g hg=>by simp [Value.ownBlock] at hg) (Nat.le_refl _)) (fun g hg=>?_)⟩
           rcases g3 g hg with h | h
           · cases h
           · exact h
     · -- a row of its own
       rename_i id m
       split at hW
       · rename_i e' sz' l0 hal
         obtain ⟨rfl,rfl,rfl,hb,hW⟩:=hW
         have ha:=dI hal
         simp only at ha
         simp only [rep,XX] at hrx
         have hck:=(hrx.2.2.1 _ _ _ ha).2 rfl
         rw [hck]
         exact Ig H ht hi hz hs hby hb0 hzs hn hd ha hcy hll hrow hb fun κ' M' a' w' h=>hK _ _ _ _ _ hW h
       · exact hW.elim
     · -- a row of rows of its own
       rename_i id j m
       split at hW
       · rename_i e1 e2 sz2 rows hal
         split at hW
         · rename_i r hr
           obtain ⟨rfl,rfl,rfl,hb,hW⟩:=hW
           have ha:=d2 hal
           simp only at ha
           simp only [rep,XX] at hrx
           have hck:=((hrx.2.2 _ _ _ _ ha).1 _ hr).2 rfl
           obtain ⟨κ',H',hk'⟩:=H.detach ha hr
           have hlen:(σ.h.set id (some (Ob.mat e1 e2 sz2 (rows.set j (.g r.length))))).length=σ.h.length:=by simp
           rw [hck,←hk']
           refine Ig H' ht hi hz hs hby hb0 hzs hn hd (id:=σ.h.length) (l0:=r) (by simp only; rw [←hlen,List.getElem?_append_right (Nat.le_refl _)]; simp) hcy hll hrow hb fun κ' M' a' w' h=>hK κ' M' _ a' w' hW ?_
           have e1:(σ.h.set id (some (Ob.mat e1 e2 sz2 (rows.set j (.g r.length))))++[some (Ob.arr e2 sz2 r)]).set σ.h.length (some (Ob.arr e2 sz2 (r++l)))=σ.h.set id (some (Ob.mat e1 e2 sz2 (rows.set j (.g r.length))))++[some (Ob.arr e2 sz2 (r++l))]:=by
            rw [←hlen,List.set_append_right _ _ (Nat.le_refl _)]; simp
           simp only [e1] at h
           exact h
         · exact hW.elim
       · exact hW.elim
     · exact hW.elim
   · exact hW.elim
 · exact hW.elim
theorem Q1 {h:List (Option Ob)} {v u:V} (hp:pur h v=some u) (hn:nt v=true):nt u=true:=by
 cases v<;>simp only [pur] at hp<;>first
  | (cases hp; done)
  | (cases hp; rfl)
  | (simp [nt] at hn; done)
  | (obtain ⟨_,_,rfl⟩:=Option.map_eq_some_iff.1 hp; rfl)
  | (unfold pur1 at hp; split at hp<;>(try split at hp)<;>first | (cases hp; rfl) | (cases hp; done) | (obtain ⟨_,_,rfl⟩:=Option.map_eq_some_iff.1 hp; rfl))
  | (unfold pur2 at hp; split at hp<;>(try split at hp)<;>(try split at hp)<;>first | (cases hp; rfl) | cases hp)
  | (split at hp<;>first | (cases hp; rfl) | cases hp)
theorem wk {α:Type} (c d:List α) (p off s t:Nat) (h1:off + d.length≤s) (h2:p + s≤t) (h3:t≤c.length):
 (c.take (p + off)++d++c.drop (p + off + d.length)).take t=(c.take t).take p++(((c.drop p).take s).take off++d++((c.drop p).take s).drop (off + d.length))++(c.take t).drop (p + s):=by
 obtain ⟨k,rfl⟩:∃ k,t=p + (off + (d.length + k)):=⟨t - p - off - d.length,by omega⟩
 have e1:(c.take (p + (off + (d.length + k)))).take p=c.take p:=by rw [List.take_take,Nat.min_eq_left (by omega)]
 have e2:((c.drop p).take s).take off=(c.drop p).take off:=by rw [List.take_take,Nat.min_eq_left (by omega)]
 have e3:c.take (p + off)=c.take p++(c.drop p).take off:=by rw [List.take_add]
 have l1:(c.take p).length=p:=by simp; omega
 have l2:((c.drop p).take off).length=off:=by simp; omega
 rw [e1,e2,e3]
 simp only [List.append_assoc]
 rw [List.take_append,l1,List.take_of_length_le (l:=c.take p) (by rw [l1]; omega),Nat.add_sub_cancel_left]
 rw [List.take_append,l2,List.take_of_length_le (l:=(c.drop p).take off) (by rw [l2]; omega),Nat.add_sub_cancel_left]
 rw [List.take_append,List.take_of_length_le (l:=d) (by omega),Nat.add_sub_cancel_left]
 congr 3
 apply List.ext_getElem?
 intro j
 by_cases hj:j < s - (off + d.length)
 · rw [List.getElem?_append_left (by simp; omega),List.getElem?_take,if_pos (by omega),List.getElem?_drop,List.getElem?_drop,List.getElem?_take,if_pos (by omega),List.getElem?_drop]
   congr 1; omega
 · rw [List.getElem?_append_right (by simp; omega)]
   simp only [List.getElem?_take,List.getElem?_drop,List.length_drop,List.length_take]
   split
   · rw [if_pos (by omega)]; congr 1; omega
   · rw [if_neg (by omega)]
theorem DJ {α:Type} (c d:List α) (p t:Nat) (h2:p + d.length≤t) (h3:t≤c.length):
 (c.take p++d++c.drop (p + d.length)).take t=(c.take t).take p++d++(c.take t).drop (p + d.length):=by
 have h:=wk c d p 0 d.length t (by omega) h2 h3
 simp only [Nat.add_zero,Nat.zero_add,List.take_zero,List.nil_append] at h
 rw [h]
 congr 2
 simp
theorem wE {t:TypeId} {n:Nat} (hs:dW P t=some n) {e sz len:Nat} {val:Value} {xs:List Value} (ho:w.ownsRow 0 e sz val len xs) {b cap p:Nat} (g1:val=.slice (some ⟨b,0,none⟩) len cap) {d:Value} (hd:d.cells.size=n) (h1:∀ u∈d.cells.toList,ar u) (hle:p + n≤len * sz):
 ∃ row:Array Value,(Instr.storeAt t (.pointer (some ⟨b,p,none⟩)) d).run P w=.ok () (w.setRow b row)∧(w.setRow b row).ownsRow 0 e sz val len (xs.take p++d.cells.toList++xs.drop (p + n)):=by
 rcases ho.2 with ⟨h,h0⟩ | ⟨g,cap',cur,h4,h5,h6,h7,h8,h9,h10⟩
 · rw [h] at g1; cases g1
 · rw [g1] at h4
   cases h4
   have hcl:len * sz≤cur.size:=by rw [h9]; exact Nat.mul_le_mul_right _ h7
   have hdl:d.cells.toList.length=n:=by simpa using hd
   refine ⟨_,rK hs (off:=p) h6 hd h1 (by omega),?_,.inr ⟨b,cap,_,g1,h5,setRow_heap w b cur _ e (0,0) h6,h7,h8,?_,?_⟩⟩
   · have:=ho.1
     simp only [List.length_append,List.length_take,List.length_drop,hdl]; omega
   · simp only [List.size_toArray,List.length_append,List.length_take,List.length_drop,Array.length_toList]; omega
   · rw [←h10,←hdl]
     exact DJ cur.toList d.cells.toList p (len * sz) (by omega) (by simpa using hcl)
theorem Aw {Mx:Mem} {t:TypeId} {n:Nat} (hs:dW P t=some n) {e sz:Nat} {val:Value} {l:List V} {xs:List Value} (ho:w.ownsRow 0 e sz val l.length xs) (hrow:al Mx sz l xs) {b cap i off:Nat} (g1:val=.slice (some ⟨b,0,none⟩) l.length cap) {d:Value} (hd:d.cells.size=n)
 (h1:∀ u∈d.cells.toList,ar u) {vo v':V} (hvo:l[i]?=some vo) {us cs':List V} (hcs':eA (cl vo) off us=some cs') (hv':mkc (isS vo) cs'=some v') (hpu:aa Mx NX us d.cells.toList):
 ∃ row:Array Value,(Instr.storeAt t (.pointer (some ⟨b,i * sz + off,none⟩)) d).run P w=.ok () (w.setRow b row)∧∃ xs',(w.setRow b row).ownsRow 0 e sz val (l.set i v').length xs'∧al Mx sz (l.set i v') xs':=by
 have hil:i < l.length:=(List.getElem?_eq_some_iff.1 hvo).1
 obtain ⟨y,y1,y2,y3,y4⟩:=qB hrow hvo
 have hnto:∀ vs,vo≠.tup vs:=by
  rintro vs rfl
  simp only [rep] at y1
  obtain ⟨arr,rfl,_⟩:=y1
  have:=y3 (.tuple arr) (by simp [Value.cells])
  simp [ar,Value.oneCell'] at this
 have yk:=cg y1 lN hnto
 have hsp:=qv hcs' yk.1 hpu
 have hoff:off + n≤sz:=by have:=hsp.1; simp at this; omega
 have hcells:∀ u∈y.cells.toList.take off++d.cells.toList++y.cells.toList.drop (off + d.cells.toList.length),ar u:=by
  intro u hu
  simp only [List.mem_append] at hu
  rcases hu with (hu | hu) | hu
  · exact y3 u (List.mem_of_mem_take hu)
  · exact h1 u hu
  · exact y3 u (List.mem_of_mem_drop hu)
 have hclen:(y.cells.toList.take off++d.cells.toList++y.cells.toList.drop (off + d.cells.toList.length)).length=sz:=by
  simp only [List.length_append,List.length_take,List.length_drop,Array.length_toList]; omega
 obtain ⟨y',y1',y2',_⟩:∃ y':Value,rep Mx NX v' y'∧y'.cells.toList=y.cells.toList.take off++d.cells.toList++y.cells.toList.drop (off + d.cells.toList.length)∧True:=by
  rcases vO hv' hsp.2 hcells with ⟨_,h⟩ | ⟨_,c',h,h'⟩
  · exact ⟨_,h,by simp [Value.cells],trivial⟩
  · refine ⟨c',h',?_,trivial⟩
    rw [h]
    have:=bZ (hcells c' (by rw [h]; simp))
    rw [this]
 have hys:y'.cells.size=sz:=by rw [←Array.length_toList,y2',hclen]
 have hle:(i + 1) * sz≤l.length * sz:=Nat.mul_le_mul_right _ (by omega)
 simp only [Nat.add_mul,Nat.one_mul] at hle
 obtain ⟨row,r1,r2⟩:=wE hs ho g1 (p:=i * sz + off) hd h1 (by omega)
 refine ⟨row,r1,_,?_,ww hrow hil y1' hys (by rw [y2']; exact hcells)⟩
 have hdl:d.cells.toList.length=n:=by simpa using hd
 have hxl:=bO hrow
 have hy4:y.cells.toList=(xs.drop (i * sz)).take sz:=by
  apply List.ext_getElem?
  intro j
  by_cases hj:j < sz
  · have:=y4 j hj
    rw [List.getElem?_take,if_pos hj,List.getElem?_drop,this]
    simp
  · rw [List.getElem?_eq_none (by simp; omega),List.getElem?_eq_none (by simp; omega)]
 have hsm:=wk xs d.cells.toList (i * sz) off sz xs.length (by omega) (by omega) (Nat.le_refl _)
 rw [List.take_of_length_le (l:=xs) (Nat.le_refl _)] at hsm
 rw [List.length_set,y2',hy4,←hsm,hdl]
 rw [List.take_of_length_le (by simp only [List.length_append,List.length_take,List.length_drop,hdl]; omega)]
 exact r2
theorem FH (H:Rel N M0 B w0 κ M σ a w) {t:TypeId} {n:Nat} (hs:dW P t=some n) {p v:V} {c d:Value} (hp:rep M (XX κ σ.h) p c) (hv:rep M (XX κ σ.h) v d) (hnt:nt v=true) {σ':St} (hst:σ.stor n p (cl v)=some σ'):
 ∃ w',(Instr.storeAt t c d).run P w=.ok () w'∧∃ κ' M',Rel N M0 B w0 κ' M' σ' a w':=by
 have hk:=cg hv Du (lb hnt)
 have hlen:=aG hk.1
 cases p<;>simp only [St.stor] at hst<;>try (cases hst; done)
 case ptr id off=>
  split at hst
  · rename_i cs hcs
    split at hst
    · rename_i hn
      split at hst
      · rename_i cs' hcs'
        cases hst
        have hb:=lK hcs
        obtain ⟨b,arr,T,h1,h2,h3,h4,h5,hbl⟩:=H.heap id _ hb
        simp only [rep,XX] at hp
        obtain ⟨b',g1,g2⟩:=hp.2.2 cs hb
        rw [h1] at g1
        cases g1
        subst g2
        have hsp:=qv hcs' h4 hk.1
        have hd:d.cells.size=n:=by simp at hlen; omega
        refine ⟨_,rK hs h3 hd hk.2 (by have:=hsp.1; simp at this; omega),upd κ id (κ id),M,?_⟩
        have hX:∀ u c,XX κ σ.h u c→XX (upd κ id (κ id)) (σ.h.set id (some (Ob.box cs'))) u c:=fun u c hx=>ke hb hx (fun _ _=>⟨⟨cs,rfl⟩,rfl⟩) (fun _ _ _ h=>by cases h) (fun _ _ _ _ h=>by cases h)
        refine H.setOb hb (iC h2 _ fun cur T z hc=>by rw [h3] at hc; cases hc; have:=hsp.1; simp at this ⊢; omega) (fun k _ hne=>setRow_other w b k _ (fun e=>hne ((hbl k).2 e))) (fun g hg=>.inl ((hbl g).2 (by rw [h1] at hg; cases hg; rfl))) hX ?_
        simp only [aK]
        refine ⟨b,_,T,by rw [bk,h1],h2,setRow_heap w b arr _ T (0,0) h3,aR (fun _ _ h=>h) hX _ _ (by simpa using hsp.2),?_,fun g=>by rw [aI,h1]; simp only [blk,Option.some.injEq]; exact eq_comm⟩
        intro u hu
        simp only [List.mem_append] at hu
        rcases hu with (hu | hu) | hu
        · exact h5 u (List.mem_of_mem_take hu)
        · exact hk.2 u hu
        · exact h5 u (List.mem_of_mem_drop hu)
      · cases hst
    · cases hst
  · cases hst
 case eptr id m i off=>
  split at hst
  · rename_i us' hus'
    split at hst
    · rename_i e sz l hal
      split at hst
      · rename_i hn
        split at hst
        · rename_i vo hvo
          split at hst
          · rename_i cs' hcs'
            split at hst
            · rename_i v' hv'
              cases hst
              obtain ⟨H1,hM1⟩:=H.kill (ai (cl v)) (dg hus')
              have ha:=dI hal
              simp only at ha
              obtain ⟨k1,k2,k3⟩:=qN (ai (cl v)) σ
              have ha0:=(k3 id _ ha).1
              have hil:i < l.length:=(List.getElem?_eq_some_iff.1 hvo).1
              simp only [rep,XX] at hp
              obtain ⟨b,cap,g1,g2⟩:=(hp.2.2.1 e sz l ha0).2 hn.2 (by omega)
              subst g2
              have hpu:aa (ext M w (lL κ (ai (cl v)))) NX us' d.cells.toList:=by
               refine bv H hM1 (fun id hid g hg p hpb=>?_) hk.1 hus'
               unfold ext
               rw [if_pos (cZ.2 ⟨id,hid,by rw [hpb]; exact hg⟩)]
              obtain ⟨hsz,hll,xs,ho,hrow,hown,hbl⟩:=H1.heap id _ ha
              have hd:d.cells.size=n:=by simp at hlen; omega
              rw [hn.2] at g1
              obtain ⟨row,r1,xs',r2,r3⟩:=Aw hs ho hrow g1 hd hk.2 hvo hcs' hv' hpu
              have hb:κ.bl id b:=(hbl b).2 (by rw [g1]; rfl)
              refine ⟨_,r1,upd κ id (κ id),ext M w (lL κ (ai (cl v))),?_⟩
              have hX:∀ u c,XX κ (σ.kill (ai (cl v))).h u c→XX (upd κ id (κ id)) ((σ.kill (ai (cl v))).h.set id (some (Ob.arr e sz (l.set i v')))) u c:=fun u c hx=>ke ha hx (fun _ h=>by cases h) (fun e2 sz2 l2 h=>by
               cases h
               exact ⟨e,l,rfl,by simp,fun _=>rfl⟩) (fun _ _ _ _ h=>by cases h)
              refine H1.setOb ha (iC (hown b hb) _ (mO ho r2 (by rw [g1]; rfl))) (fun k _ hne=>setRow_other w b k _ (fun e=>hne (e ▸ hb))) (fun g hg=>.inl ((hbl g).2 hg)) hX ?_
              simp only [aK]
              rw [bf,aI]
              exact ⟨hsz,by simpa using hll,xs',r2,r3,fun g hg=>hown g ((hbl g).2 hg),fun g=>Iff.rfl⟩
            · cases hst
          · cases hst
        · cases hst
      · cases hst
    · unfold St.storM at hst
      split at hst
      · rename_i id2 n2 hcl
        split at hst
        · rename_i e e2 sz rows e2' sz' l hrm har
          split at hst
          · rename_i kl hri
            split at hst
            · rename_i hc
              cases hst
              obtain ⟨rfl,rfl,rfl,rfl,rfl,rfl,hlt⟩:=hc
              have hm:=d2 hrm
              have ha:=dI har
              simp only at hm ha
              have hne:id2≠id:=by rintro rfl; rw [hm] at ha; cases ha
              have hm':(σ.h.set id2 none)[id]?=some (some (.mat e e2' sz' rows)):=by rw [List.getElem?_set,if_neg hne]; exact hm
              have H0:=H.drop id2
              obtain ⟨h0,h1,⟨xs,h2,h3,h4⟩,h5,h6,h7,hown,hbl⟩:=H.heap id _ hm
              obtain ⟨a0,a1,ys,a2,a3,aown,abl⟩:=H.heap id2 _ ha
              simp only [rep,XX] at hp
              have hil:=IQ hri
              obtain ⟨b,cap,g1,g2⟩:=(hp.2.2.2 _ _ _ _ hm).2 rfl hil
              subst g2
              -- the value that is stored
              rw [hcl] at hk hlen
              have hdc:d.cells.toList=[κ id2]:=by
               have h:=hk.1
               simp only [aa,rep,XX] at h
               obtain ⟨c,cs',k1,k2,k3⟩:=h
               rw [k1,k3,(k2.2.2.1 _ _ _ ha).2 rfl]
              have hd:d.cells.size=1:=by rw [←Array.length_toList,hdc]; rfl
              have hle:i * 1 + 1≤rows.length * 1:=by omega
              obtain ⟨row,r1,r2⟩:=wE hs h2 g1 (p:=i + 0) hd hk.2 (by omega)
              have hb:blk (κ id)=some b:=by rw [g1]; rfl
              have hbB:κ.bl id b:=(hbl b).2 (.inl hb)
              have hoth:∀ k,k≠b→(w.setRow b row).heap[k]?=w.heap[k]?:=fun k hk=>setRow_other w b k _ hk
              have kid2:∀ g,blk (κ id2)=some g→¬κ.bl id g:=fun g hg hg'=>hne (H.inj id2 id _ _ g ha hm ((abl g).2 hg) hg')
              let kr:Nat→Value:=fun j=>if j=i then κ id2 else κ.row id j
              have kri:kr i=κ id2:=by simp [kr]
              have krn:∀ {j},j≠i→kr j=κ.row id j:=fun h=>by simp [kr,h]
              let kb:Nat→Prop:=fun g=>blk (κ id)=some g∨∃ j s,aL (rows.set i (.a l)) j=some s∧blk (kr j)=some g
              have rs:∀ {j:Nat} {s:List V},aL (rows.set i (.a l)) j=some s→(j=i∧s=l∧kr j=κ id2)∨(j≠i∧aL rows j=some s∧kr j=κ.row id j):=by
               intro j s hs
               rcases oL hs with ⟨h,_,h'⟩ | ⟨h,h'⟩
               · cases h'; exact .inl ⟨h,rfl,by rw [h,kri]⟩
               · exact .inr ⟨h,h',krn h⟩
              have kbs:∀ {g},kb g→κ.bl id g∨blk (κ id2)=some g:=by
               rintro g (h | ⟨j,s,hj,h⟩)
               · exact .inl ((hbl g).2 (.inl h))
               · rcases rs hj with ⟨_,_,e⟩ | ⟨_,h',e⟩
                 · exact .inr (by rw [←e]; exact h)
                 · exact .inl ((hbl g).2 (.inr ⟨j,s,h',by rw [←e]; exact h⟩))
              have hrl:∀ (j:Nat) (s:List V),aL rows j=some s→∀ g,blk (κ.row id j)=some g→g≠b:=fun j s hj g hg e=>h7 j s g hj hg (by rw [e]; exact hb)
              have hX:∀ u c,XX κ (σ.h.set id2 none) u c→XX (bS κ id (κ id) kr kb) ((σ.h.set id2 none).set id (some (Ob.mat e e2' sz' (rows.set i (.a l))))) u c:=fun u c hx=>ke hm' hx (fun _ h=>by cases h) (fun _ _ _ h=>by cases h) (fun e' e2'' sz'' rows' h=>by
               cases h
               refine ⟨e,e2',rows,rfl,by simp,rfl,fun j s hs=>?_,fun j k hk=>?_⟩
               · rcases rs hs with ⟨rfl,rfl,_⟩ | ⟨_,h',e⟩
                 · rcases Ay hri with ⟨r,hr1,hr2⟩ | hr1
                   · exact .inl ⟨r,hr1,by omega,fun h=>by omega⟩
                   · exact .inr ⟨kl,hr1,hlt⟩
                 · exact .inl ⟨s,h',Nat.le_refl _,fun _=>e⟩
               · rw [List.getElem?_set] at hk
                 split at hk
                 · first | (cases hk; done) | (split at hk<;>cases hk)
                 · exact .inr ⟨k,hk,Nat.le_refl _⟩)
              refine ⟨_,r1,bS κ id (κ id) kr kb,M,?_⟩
              refine H0.setOb' hm' (iC (hown b hbB) _ (mO h2 r2 hb)) (fun k _ hne=>hoth k (fun e=>hne (e ▸ hbB))) (fun g hg j oj hj hj'=>?_) (fun p v hp hg=>?_) hX ?_
              · simp only at hj
                rw [List.getElem?_set] at hj
                split at hj
                · split at hj<;>cases hj
                · rename_i hne2
                  rcases kbs hg with h | h
                  · exact H.inj id j _ oj g hm hj h hj'
                  · exact (hne2 (H.inj id2 j _ oj g ha hj ((abl g).2 h) hj')).elim
              · rcases kbs hg with h | h
                · exact H.sep p v hp id _ hm h
                · exact H.sep p v hp id2 _ ha ((abl _).2 h)
              · simp only [aK]
                rw [bf,kh,aI]
                have hxl:i < xs.length:=by have:=h2.1; omega
                have hxs:xs.take (i + 0)++d.cells.toList++xs.drop (i + 0 + 1)=xs.set i (κ id2):=by
                 rw [hdc,List.set_eq_take_append_cons_drop,if_pos hxl]; simp
                rw [hxs] at r2
                refine ⟨h0,by simpa using h1,⟨xs.set i (κ id2),by simpa using r2,?_,?_⟩,?_,?_,?_,?_,fun g=>Iff.rfl⟩
                · intro u hu
                  rcases List.mem_or_eq_of_mem_set hu with hu | hu
                  · exact h3 u hu
                  · rw [hu]; exact hk.2 _ (by rw [hdc]; simp)
                · intro j s hs
                  rw [List.getElem?_set]
                  rcases rs hs with ⟨rfl,_,e⟩ | ⟨hji,h',e⟩
                  · simp [hxl,e]
                  · rw [if_neg (fun h=>hji h.symm),e]; exact h4 j s h'
                · intro j s hs
                  rcases rs hs with ⟨rfl,rfl,e⟩ | ⟨_,h',e⟩
                  · rw [e]
                    exact ⟨a1,ys,cL a2 (fun g hg=>hoth g (fun h=>kid2 g hg (h ▸ hbB))),a3⟩
                  · rw [e]
                    obtain ⟨q1,zs,q2,q3⟩:=h5 j s h'
                    exact ⟨q1,zs,cL q2 (fun g hg=>hoth g (hrl j s h' g hg)),q3⟩
                · intro j k s s' g hs hs' hg hg'
                  rcases rs hs with ⟨rfl,_,e⟩ | ⟨hj,h',e⟩<;>rcases rs hs' with ⟨rfl,_,e'⟩ | ⟨hj',h'',e'⟩
                  · rfl
                  · rw [e] at hg; rw [e'] at hg'
                    exact (kid2 g hg ((hbl g).2 (.inr ⟨k,s',h'',hg'⟩))).elim
                  · rw [e] at hg; rw [e'] at hg'
                    exact (kid2 g hg' ((hbl g).2 (.inr ⟨j,s,h',hg⟩))).elim
                  · rw [e] at hg; rw [e'] at hg'
                    exact h6 j k s s' g h' h'' hg hg'
                · intro j s g hs hg hg'
                  rcases rs hs with ⟨rfl,_,e⟩ | ⟨hj,h',e⟩
                  · rw [e] at hg
                    exact kid2 g hg ((hbl g).2 (.inl hg'))
                  · rw [e] at hg
                    exact h7 j s g h' hg hg'
                · intro g hg
                  rcases kbs hg with h | h
                  · exact hown g h
                  · exact aown g ((abl g).2 h)
            · cases hst
          · cases hst
        · cases hst
      · cases hst
  · cases hst
 case mptr id i m k off=>
  split at hst
  · rename_i us' hus'
    split at hst
    · rename_i e e2 sz rows hal
      split at hst
      · rename_i r hri
        split at hst
        · rename_i hn
          split at hst
          · rename_i vo hvo
            split at hst
            · rename_i cs' hcs'
              split at hst
              · rename_i v' hv'
                cases hst
                obtain ⟨H1,hM1⟩:=H.kill (ai (cl v)) (dg hus')
                have ha:=d2 hal
                simp only at ha
                obtain ⟨k1,k2,k3⟩:=qN (ai (cl v)) σ
                have ha0:=(k3 id _ ha).1
                have hil:k < r.length:=(List.getElem?_eq_some_iff.1 hvo).1
                simp only [rep,XX] at hp
                obtain ⟨b,cap,g1,g2⟩:=((hp.2.2 _ _ _ _ ha0).1 r hri).2 hn.2 (by omega)
                subst g2
                have hpu:aa (ext M w (lL κ (ai (cl v)))) NX us' d.cells.toList:=by
                 refine bv H hM1 (fun id hid g hg p hpb=>?_) hk.1 hus'
                 unfold ext
                 rw [if_pos (cZ.2 ⟨id,hid,by rw [hpb]; exact hg⟩)]
                obtain ⟨h0,h1,⟨xs,h2,h3,h4⟩,h5,h6,h7,hown,hbl⟩:=H1.heap id _ ha
                obtain ⟨q1,ys,q2,q3⟩:=h5 i r hri
                have hd:d.cells.size=n:=by simp at hlen; omega
                rw [hn.2] at g1
                obtain ⟨row,r1,xs',r2,r3⟩:=Aw hs q2 q3 g1 hd hk.2 hvo hcs' hv' hpu
                have hbi:blk (κ.row id i)=some b:=by rw [g1]; rfl
                have hb:κ.bl id b:=(hbl b).2 (.inr ⟨i,r,hri,hbi⟩)
                have hoth:∀ k,k≠b→(w.setRow b row).heap[k]?=w.heap[k]?:=fun k hk=>setRow_other w b k _ hk
                have hir:=mU hri
                have rs:∀ {j:Nat} {s:List V},aL (rows.set i (.a (r.set k v'))) j=some s→(j=i∧s=r.set k v')∨(j≠i∧aL rows j=some s):=by
                 intro j s hs
                 rcases oL hs with ⟨h,_,h'⟩ | h
                 · cases h'; exact .inl ⟨h,rfl⟩
                 · exact .inr h
                have rr:∀ {j:Nat} {s:List V},aL (rows.set i (.a (r.set k v'))) j=some s→∃ s',aL rows j=some s'∧s'.length=s.length:=by
                 intro j s hs
                 rcases rs hs with ⟨rfl,rfl⟩ | ⟨_,h⟩
                 · exact ⟨r,hri,by simp⟩
                 · exact ⟨s,h,rfl⟩
                have hX:∀ u c,XX κ (σ.kill (ai (cl v))).h u c→XX (bS κ id (κ id) (κ.row id) (κ.bl id)) ((σ.kill (ai (cl v))).h.set id (some (Ob.mat e e2 sz (rows.set i (.a (r.set k v')))))) u c:=fun u c hx=>ke ha hx (fun _ h=>by cases h) (fun _ _ _ h=>by cases h) (fun e' e2'' sz'' rows' h=>by
                 cases h
                 refine ⟨e,e2,rows,rfl,by simp,rfl,fun j s hs=>?_,fun j q hk=>?_⟩
                 · obtain ⟨s',h',hl⟩:=rr hs
                   exact .inl ⟨s',h',by omega,fun _=>rfl⟩
                 · rw [List.getElem?_set] at hk
                   split at hk
                   · first | (cases hk; done) | (split at hk<;>cases hk)
                   · exact .inr ⟨q,hk,Nat.le_refl _⟩)
                refine ⟨_,r1,bS κ id (κ id) (κ.row id) (κ.bl id),ext M w (lL κ (ai (cl v))),?_⟩
                refine H1.setOb ha (iC (hown b hb) _ (mO q2 r2 hbi)) (fun k _ hne=>hoth k (fun e=>hne (e ▸ hb))) (fun g hg=>.inl hg) hX ?_
                simp only [aK]
                rw [bf,kh,aI]
                refine ⟨h0,by simpa using h1,⟨xs,?_,h3,fun j s hs=>by obtain ⟨s',h',_⟩:=rr hs; exact h4 j s' h'⟩,?_,?_,?_,hown,fun g=>(hbl g).trans ?_⟩
                · rw [List.length_set]
                  exact cL h2 fun g hg=>hoth g (fun e=>h7 i r b hri hbi (by rw [←e]; exact hg))
                · intro j s hs
                  rcases rs hs with ⟨rfl,rfl⟩ | ⟨hji,h⟩
                  · exact ⟨by simpa using q1,xs',r2,r3⟩
                  · obtain ⟨q4,zs,q5,q6⟩:=h5 j s h
                    exact ⟨q4,zs,cL q5 (fun g hg=>hoth g (fun e=>hji (h6 j i s r g h hri hg (by rw [e]; exact hbi)))),q6⟩
                · intro j k s s' g hs hs' hg hg'
                  obtain ⟨s1,h1',_⟩:=rr hs
                  obtain ⟨s2,h2',_⟩:=rr hs'
                  exact h6 j k s1 s2 g h1' h2' hg hg'
                · intro j s g hs
                  obtain ⟨s1,h1',_⟩:=rr hs
                  exact h7 j s1 g h1'
                · refine or_congr Iff.rfl ⟨?_,?_⟩
                  · rintro ⟨j,s,hj,hg⟩
                    by_cases hji:j=i
                    · subst hji
                      exact ⟨j,r.set k v',by unfold aL; simp [hir.2],hg⟩
                    · exact ⟨j,s,by unfold aL at hj ⊢; rw [List.getElem?_set,if_neg (fun e=>hji e.symm)]; exact hj,hg⟩
                  · rintro ⟨j,s,hj,hg⟩
                    obtain ⟨s',h',_⟩:=rr hj
                    exact ⟨j,s',h',hg⟩
              · cases hst
            · cases hst
          · cases hst
        · cases hst
      · cases hst
    · cases hst
  · cases hst
theorem Bt (l:List UInt8):fN l=l.map fun b=>.int .u8 b.toNat:=by
 induction l with
 | nil=>rfl
 | cons b l ih=>simp [fN,ih]
theorem MS {M:Mem} {X:V→Value→Prop} (b:UInt8):rep M X (.int .u8 b.toNat) (.int .u8 b.toNat):=by
 simp only [rep]
 have:=b.toNat_lt
 exact ⟨trivial,by simp [IntKind.min,IntKind.signed],by simp [IntKind.max,IntKind.signed,IntKind.bits]; omega⟩
theorem Bs {M:Mem} {g:Nat}:∀ (l:List UInt8) (off:Nat),(∀ j b,l[j]?=some b→M ⟨g,off + j,none⟩=some (.int .u8 b.toNat))→bp M 1 (fN l) g off
 | [],_,_=>by simp [fN,bp]
 | b::l,off,h=>by
   simp only [fN,bp]
   refine ⟨⟨.int .u8 b.toNat,MS b,rfl,by simp [Value.cells,ar,Value.oneCell'],fun j hj=>?_⟩,Bs l (off + 1) fun j c hc=>?_⟩
   · obtain rfl:j=0:=by omega
     simpa [Value.cells] using h 0 b (by simp)
   · have:=h (j + 1) c (by simpa using hc)
     rw [←this]; congr 2; omega
theorem IM (H:Rel N M0 B w0 κ M σ a w) (bs:ByteArray) (hlen:bs.data.toList.length≤140737488355328) {s d e:TypeId} (hs:P.underlying s=some .string) (hd:P.underlying d=some (.slice e)) (he:P.underlying e=some (.int .u8)):
 ∃ c w',(convert s d (.string bs)).run P w=.ok c w'∧∃ M',Rel N M0 B w0 κ M' σ a w'∧rep M' NX (.seq 1 (fN bs.data.toList)) c:=by
 have hrun:=run_bytes_of_string (P:=P) w s d e bs hs hd he
 have hcap:=grownCap_ge w bs.size 0 e
 generalize grownCap w bs.size 0 e=cap at *
 refine ⟨_,_,hrun,ext M (w.drew.alloc (.cells (bytesRow bs cap) e ((bytesRow bs cap).size,(bytesRow bs cap).size + 1))) (fun g=>g=w.heap.size),?_,?_⟩
 · have hb:Below w.heap.size w (w.drew.alloc (.cells (bytesRow bs cap) e ((bytesRow bs cap).size,(bytesRow bs cap).size + 1))):=((Below.refl _ w).drew).alloc (Nat.le_refl _) _
   refine H.grow hb ?_ ?_ ?_
   · intro p v h
     unfold ext
     rw [if_neg (by have:=H.mem_lt h; show ¬p.block=_; omega)]
     exact h
   · intro p v h
     unfold ext at h
     split at h
     · exact h
     · rw [hb.cell (H.mem_lt h)]; exact H.snd p v h
   · intro p v h
     unfold ext at h
     split at h
     · rename_i hm; have hm:p.block=_:=hm; exact .inr (by omega)
     · exact .inl h
 · simp only [rep]
   have hl:(fN bs.data.toList).length=bs.size:=by rw [Bt,List.length_map,←kV]
   refine ⟨some ⟨w.heap.size,0,none⟩,cap,by rw [hl],by rw [hl]; exact hcap,by rw [hl,kV]; exact hlen,by decide,.inr ⟨_,_,rfl,?_⟩⟩
   refine Bs _ 0 fun j b hj=>?_
   unfold ext
   rw [if_pos (by simp)]
   have hg:(w.drew.alloc (.cells (bytesRow bs cap) e ((bytesRow bs cap).size,(bytesRow bs cap).size + 1))).heap[w.heap.size]?=some (.cells (bytesRow bs cap) e ((bytesRow bs cap).size,(bytesRow bs cap).size + 1)):=heap_alloc_new w.drew _
   rw [cell_of_row _ _ _ _ _ _ hg]
   unfold bytesRow
   have hlt:=(List.getElem?_eq_some_iff.1 hj).1
   rw [Nat.zero_add,Array.getElem?_append_left (by simpa using hlt)]
   simp at hj
   simp [hj]
theorem OZ (H:Rel N M0 B w0 κ M σ a w) {t e:TypeId} {i:TypeInfo} {n len:Nat} {z:Value} {parts:Array (Nat × Operand)} (ht:P.underlying t=some (.slice e)) (hi:P.info? e=some i) (hs:i.size=n) (h0:0 < n) (hz:i.zero=some z) (hzs:z.cells.size=n)
 (hle:len * n≤16777216) (hpi:parts.toList.map (·.1)=List.range len) {vs us:List V} (hvs:aa M (XX κ σ.h) vs ((parts.toList.map (·.2)).map a.eval)) (hus:purs σ.h vs=some us) (hsl:bo n us=true) (hul:us.length≤16777216):
 ∃ (M1:Mem) (xs:List Value),Rel N M0 B w0 κ M1 (σ.kill (ai vs)) a w∧al M1 n us xs∧us.length=len∧
   (Instr.buildSlice t len (parts.map fun x=>(x.1,a.eval x.2))).run P w=.ok (.slice (some ⟨w.heap.size,0,none⟩) len len) (w.alloc (.cells xs.toArray e)):=by
 obtain ⟨H1,hM1⟩:=H.kill (ai vs) (dg hus)
 generalize hcs:(parts.toList.map (·.2)).map a.eval=cs at *
 have hpu:aa (ext M w (lL κ (ai vs))) NX us cs:=by
  refine bv H hM1 (fun id hid g hg p hpb=>?_) hvs hus
  unfold ext
  rw [if_pos (cZ.2 ⟨id,hid,by rw [hpb]; exact hg⟩)]
 have hcl:cs.length=len:=by
  rw [←hcs,List.length_map,List.length_map]
  have:=congrArg List.length hpi
  simpa using this
 have hul':us.length=len:=by rw [←hcl]; exact (aG hpu).symm
 have hc1:∀ c∈cs,c.cells.size=n:=by
  intro c hc
  obtain ⟨j,hj,hj'⟩:=List.getElem_of_mem hc
  exact (mP hsl hpu j c (by rw [List.getElem?_eq_getElem hj,hj'])).1
 have hz0:0 < z.cells.size:=by omega
 have hbase:((Array.range (len * n)).map (fun x=>z.cells[x % z.cells.size]!)).size=len * n:=by simp
 have hfill:=xG n cs 0 ((Array.range (len * n)).map (fun x=>z.cells[x % z.cells.size]!)) hc1 (by rw [hbase,hcl]; simp)
 have hparts:(parts.map fun x=>(x.1,a.eval x.2)).toList=(List.range' 0 cs.length).zip cs:=by
  rw [hcl,←List.range_eq_range',←hpi,←hcs]
  simp only [Array.toList_map,List.map_map]
  generalize parts.toList=ps
  induction ps with
  | nil=>rfl
  | cons p ps ih=>simp [ih]
 rw [←hparts] at hfill
 have hrow0:=tp hsl hpu
 have hrl:=bO hrow0
 have hres:(List.take (0 * n) ((Array.range (len * n)).map (fun x=>z.cells[x % z.cells.size]!)).toList++jE cs++List.drop ((0 + cs.length) * n) ((Array.range (len * n)).map (fun x=>z.cells[x % z.cells.size]!)).toList).toArray=(jE cs).toArray:=by
  rw [List.drop_eq_nil_of_le (by rw [Array.length_toList,hbase,hcl]; simp)]
  simp
 rw [hres] at hfill
 have hrun:(Instr.buildSlice t len (parts.map fun x=>(x.1,a.eval x.2))).run P w=.ok (.slice (some ⟨w.heap.size,0,none⟩) len len) (w.alloc (.cells (jE cs).toArray e)):=by
  have hsz:dW P e=some n:=by simp [dW,hi,hs]
  have hn2:¬len * n > 2 ^ 24:=by omega
  unfold Instr.buildSlice
  simp only [Sem.run_bind,run_underlying ht,Result.andThen_ok,aU hsz,hn2,if_false]
  by_cases hln:len * n=0
  · have hl0:len=0:=by
     rcases Nat.eq_zero_or_pos len with h | h
     · exact h
     · have:=Nat.mul_pos h h0; omega
    have hcs0:cs=[]:=List.eq_nil_of_length_eq_zero (by omega)
    subst hcs0
    simp only [hln,if_true,Sem.run_pure,Result.andThen_ok] at hfill ⊢
    have e0:∀ (f:Nat→Value),Array.map f (Array.range 0)=#[]:=fun f=>by simp [Array.range_zero']
    simp only [e0] at hfill ⊢
    simp only [Sem.run_bind,Sem.run_pure,Result.andThen_ok,e0,hfill]
    simp [newRow]
  · simp only [hln,if_false,Sem.run_bind,zeroValue,typeInfo,run_program,Result.andThen_ok,hi,hz,Sem.run_pure,hfill]
    simp [newRow]
 exact ⟨_,_,H1,hrow0,hul',hrun⟩
theorem Jf (H:Rel N M0 B w0 κ M σ a w) {t e:TypeId} {i:TypeInfo} {n len:Nat} {z:Value} {parts:Array (Nat × Operand)} (ht:P.underlying t=some (.slice e)) (hi:P.info? e=some i) (hs:i.size=n) (h0:0 < n) (hz:i.zero=some z) (hzs:z.cells.size=n)
 (hle:len * n≤16777216) (hpi:parts.toList.map (·.1)=List.range len) {vs us:List V} (hvs:aa M (XX κ σ.h) vs ((parts.toList.map (·.2)).map a.eval)) (hus:purs σ.h vs=some us) (hsl:bo n us=true) (hul:us.length≤16777216):
 ∃ c w',(Instr.buildSlice t len (parts.map fun x=>(x.1,a.eval x.2))).run P w=.ok c w'∧∃ κ' M',Rel N M0 B w0 κ' M' ⟨(σ.kill (ai vs)).r,(σ.kill (ai vs)).h++[some (Ob.arr e n us)]⟩ a w'∧
   rep M' (XX κ' ((σ.kill (ai vs)).h++[some (Ob.arr e n us)])) (.ref (σ.kill (ai vs)).h.length us.length) c:=by
 obtain ⟨M1,xs,H1,hrow,hl,hrun⟩:=OZ H ht hi hs h0 hz hzs hle hpi hvs hus hsl hul
 have hxl:=bO hrow
 refine ⟨_,_,hrun,upd κ (σ.kill (ai vs)).h.length (.slice (some ⟨w.heap.size,0,none⟩) len len),M1,?_,?_⟩
 · have hBw:B.n≤w.heap.size:=by rw [H1.base]; exact H1.blw.size
   refine H1.newOb (bQ w _) (fun g hg=>by cases hg; exact Nat.le_refl _) ?_
   simp only [aK]
   refine ⟨h0,by omega,xs,?_,hrow,fun g hg=>.inl (by rw [aI] at hg; cases hg; exact hBw),fun g=>by rw [aI,bf]⟩
   rw [bk]
   refine ⟨hxl,.inr ⟨w.heap.size,len,_,by rw [hl],Nat.zero_le _,heap_alloc_new w _,by omega,by simp only [maxLen]; omega,by simp [hxl,hl],?_⟩⟩
   rw [List.take_of_length_le (by simp [hxl])]
 · simp only [rep,XX]
   refine ⟨rfl,by simp,fun e2 sz2 l2 h2=>?_,fun e2 sz2 l2 l3 h2=>by simp at h2,fun o2 h2 hn=>by simp at h2; subst h2; cases hn⟩
   simp at h2
   obtain ⟨rfl,rfl,rfl⟩:=h2
   exact ⟨by simp,fun _=>bk.symm⟩
theorem Jh (H:Rel N M0 B w0 κ M σ a w) {t e:TypeId} {i:TypeInfo} {n len:Nat} {z:Value} {parts:Array (Nat × Operand)} (ht:P.underlying t=some (.slice e)) (hi:P.info? e=some i) (hs:i.size=n) (h0:0 < n) (hz:i.zero=some z) (hzs:z.cells.size=n)
 (hle:len * n≤16777216) (hpi:parts.toList.map (·.1)=List.range len) {vs us:List V} (hvs:aa M (XX κ σ.h) vs ((parts.toList.map (·.2)).map a.eval)) (hus:purs σ.h vs=some us) (hsl:bo n us=true) (hul:us.length≤16777216):
 ∃ c w',(Instr.buildSlice t len (parts.map fun x=>(x.1,a.eval x.2))).run P w=.ok c w'∧∃ κ' M',Rel N M0 B w0 κ' M' (σ.kill (ai vs)) a w'∧rep M' NX (.seq n us) c:=by
 obtain ⟨H1,hM1⟩:=H.kill (ai vs) (dg hus)
 generalize hcs:(parts.toList.map (·.2)).map a.eval=cs at *
 have hpu:aa (ext M w (lL κ (ai vs))) NX us cs:=by
  refine bv H hM1 (fun id hid g hg p hpb=>?_) hvs hus
  unfold ext
  rw [if_pos (cZ.2 ⟨id,hid,by rw [hpb]; exact hg⟩)]
 have hcl:cs.length=len:=by
  rw [←hcs,List.length_map,List.length_map]
  have:=congrArg List.length hpi
  simpa using this
 have hul':us.length=len:=by rw [←hcl]; exact (aG hpu).symm
 have hc1:∀ c∈cs,c.cells.size=n:=by
  intro c hc
  obtain ⟨j,hj,hj'⟩:=List.getElem_of_mem hc
  exact (mP hsl hpu j c (by rw [List.getElem?_eq_getElem hj,hj'])).1
 have hz0:0 < z.cells.size:=by omega
 have hbase:((Array.range (len * n)).map (fun x=>z.cells[x % z.cells.size]!)).size=len * n:=by simp
 have hfill:=xG n cs 0 ((Array.range (len * n)).map (fun x=>z.cells[x % z.cells.size]!)) hc1 (by rw [hbase,hcl]; simp)
 have hparts:(parts.map fun x=>(x.1,a.eval x.2)).toList=(List.range' 0 cs.length).zip cs:=by
  rw [hcl,←List.range_eq_range',←hpi,←hcs]
  simp only [Array.toList_map,List.map_map]
  generalize parts.toList=ps
  induction ps with
  | nil=>rfl
  | cons p ps ih=>simp [ih]
 rw [←hparts] at hfill
 have hrow0:=tp hsl hpu
 have hrl:=bO hrow0
 have hres:(List.take (0 * n) ((Array.range (len * n)).map (fun x=>z.cells[x % z.cells.size]!)).toList++jE cs++List.drop ((0 + cs.length) * n) ((Array.range (len * n)).map (fun x=>z.cells[x % z.cells.size]!)).toList).toArray=(jE cs).toArray:=by
  rw [List.drop_eq_nil_of_le (by rw [Array.length_toList,hbase,hcl]; simp)]
  simp
 rw [hres] at hfill
 have hrun:(Instr.buildSlice t len (parts.map fun x=>(x.1,a.eval x.2))).run P w=.ok (.slice (some ⟨w.heap.size,0,none⟩) len len) (w.alloc (.cells (jE cs).toArray e)):=by
  have hsz:dW P e=some n:=by simp [dW,hi,hs]
  have hn2:¬len * n > 2 ^ 24:=by omega
  unfold Instr.buildSlice
  simp only [Sem.run_bind,run_underlying ht,Result.andThen_ok,aU hsz,hn2,if_false]
  by_cases hln:len * n=0
  · have hl0:len=0:=by
     rcases Nat.eq_zero_or_pos len with h | h
     · exact h
     · have:=Nat.mul_pos h h0; omega
    have hcs0:cs=[]:=List.eq_nil_of_length_eq_zero (by omega)
    subst hcs0
    simp only [hln,if_true,Sem.run_pure,Result.andThen_ok] at hfill ⊢
    have e0:∀ (f:Nat→Value),Array.map f (Array.range 0)=#[]:=fun f=>by simp [Array.range_zero']
    simp only [e0] at hfill ⊢
    simp only [Sem.run_bind,Sem.run_pure,Result.andThen_ok,e0,hfill]
    simp [newRow]
  · simp only [hln,if_false,Sem.run_bind,zeroValue,typeInfo,run_program,Result.andThen_ok,hi,hz,Sem.run_pure,hfill]
    simp [newRow]
 refine ⟨_,_,hrun,κ,ext (ext M w (lL κ (ai vs))) (w.alloc (.cells (jE cs).toArray e)) (fun g=>g=w.heap.size),?_,?_⟩
 · refine H1.grow (bQ w _) ?_ ?_ ?_
   · intro p v h
     have:=H1.mem_lt h
     unfold ext at h ⊢
     rw [if_neg (by show ¬p.block=_; omega)]
     exact h
   · intro p v h
     have h':=h
     unfold ext at h
     split at h
     · exact h
     · rw [(bQ w _).cell (H1.mem_lt h)]; exact H1.snd p v h
   · intro p v h
     have h':=h
     unfold ext at h
     split at h
     · rename_i hm; have hm:p.block=_:=hm; exact .inr (by omega)
     · exact .inl h
 · simp only [rep]
   refine ⟨some ⟨w.heap.size,0,none⟩,len,by rw [hul'],by rw [hul']; exact Nat.le_refl _,by omega,h0,.inr ⟨_,_,rfl,?_⟩⟩
   refine qA (fun p v h=>?_) 0 hrow0 fun j u hu=>?_
   · have:=H1.mem_lt h
     unfold ext at h ⊢
     rw [if_neg (by show ¬p.block=_; omega)]
     exact h
   · unfold ext
     rw [if_pos (by simp)]
     rw [cell_of_row _ _ _ _ _ _ (heap_alloc_new w _)]
     simpa using hu
mutual
theorem F4 {M:Mem} {h:List (Option Ob)}:∀ {v u:V} {c:Value},rep M NX v c→pur h v=some u→rep M NX u c
 | .int _ _,u,c,h,hp=>by simp only [pur] at hp; cases hp; exact h
 | .bool _,u,c,h,hp=>by simp only [pur] at hp; cases hp; exact h
 | .str _,u,c,h,hp=>by simp only [pur] at hp; cases hp; exact h
 | .nil sz,u,c,h,hp=>by
   simp only [pur] at hp; cases hp
   simp only [rep] at h ⊢
   exact ⟨none,0,by simpa using h.1,by simp,by simp,h.2,by simp⟩
 | .seq sz l,u,c,h,hp=>by simp only [pur] at hp; cases hp; exact h
 | .ref id n,u,c,h,hp=>h.elim
 | .strct cs,u,c,h,hp=>by
   simp only [pur] at hp
   obtain ⟨us,hus,rfl⟩:=Option.map_eq_some_iff.1 hp
   simp only [rep] at h ⊢
   obtain ⟨arr,h1,h2,h3⟩:=h
   exact ⟨arr,h1,rR h2 hus,h3⟩
 | .ptr _ _,u,c,h,hp=>h.elim
 | .eptr _ _ _ _,u,c,h,hp=>h.elim
 | .mref _ _ _,u,c,h,hp=>h.elim
 | .fseq _ _,u,c,h,hp=>h.elim
 | .mptr _ _ _ _ _,u,c,h,hp=>h.elim
 | .sptr x off,u,c,h,hp=>by simp only [pur] at hp; cases hp; exact h
 | .nilptr,u,c,h,hp=>by simp only [pur] at hp; cases hp; exact h
 | .fn f x y,u,c,h,hp=>by
   simp only [pur] at hp
   split at hp
   · rename_i x' y' hx hy
     cases hp
     simp only [rep] at h ⊢
     obtain ⟨a1,a2,h1,h2,h3⟩:=h
     exact ⟨a1,a2,h1,rR h2 hx,rR h3 hy⟩
   · cases hp
 | .nilfn,u,c,h,hp=>by simp only [pur] at hp; cases hp; exact h
 | .iface t x,u,c,h,hp=>by
   simp only [pur] at hp
   obtain ⟨x',hx,rfl⟩:=Option.map_eq_some_iff.1 hp
   simp only [rep] at h ⊢
   obtain ⟨y,h1,h2⟩:=h
   exact ⟨y,h1,F4 h2 hx⟩
 | .niliface,u,c,h,hp=>by simp only [pur] at hp; cases hp; exact h
 | .tup vs,u,c,h,hp=>by
   simp only [pur] at hp
   obtain ⟨us,hus,rfl⟩:=Option.map_eq_some_iff.1 hp
   simp only [rep] at h ⊢
   obtain ⟨arr,h1,h2⟩:=h
   exact ⟨arr,h1,rR h2 hus⟩
 | .junk,u,c,h,hp=>by simp only [pur] at hp; cases hp; exact h
theorem rR {M:Mem} {h:List (Option Ob)}:∀ {vs us:List V} {cs:List Value},aa M NX vs cs→purs h vs=some us→aa M NX us cs
 | [],us,cs,h,hp=>by simp only [purs] at hp; cases hp; exact h
 | v::vs,us,cs,h,hp=>by
   simp only [purs] at hp
   split at hp
   · rename_i u us' hu hus
     cases hp
     simp only [aa] at h ⊢
     obtain ⟨c,cs',h1,h2,h3⟩:=h
     exact ⟨c,cs',h1,F4 h2 hu,rR h3 hus⟩
   · cases hp
end
theorem I5 (H:Rel N M0 B w0 κ M σ a w) {t e:TypeId} {i:TypeInfo} {n by':Nat} {z:Value} {v v':V} (ht:P.underlying t=some (.slice e)) (hi:P.info? e=some i) (hz:i.zero=some z) (hv:cV P e z=some v) (hnt:nt v=true) (hpv:pur [] v=some v')
 (hs:i.size=n) (hby:i.bytes=by') (hb0:0 < by') (hn:0 < n) (hzs:z.cells.size=n) {m:Int} (hm0:0≤m) (hmb:m * by'≤140737488355328) {k:IntKind}:
 ∃ c w',(Instr.makeSlice t (.int k m) (.int k m)).run P w=.ok c w'∧∃ κ',Rel N M0 B w0 κ' M { σ with h:=σ.h++[some (Ob.arr e n (List.replicate m.toNat v'))] } a w'∧rep M (XX κ' (σ.h++[some (Ob.arr e n (List.replicate m.toNat v'))])) (.ref σ.h.length m.toNat) c:=by
 obtain ⟨q,rfl⟩:=Int.eq_ofNat_of_zero_le hm0
 have hqb:q * by'≤140737488355328:=by
  have:((q * by':Nat):Int)≤140737488355328:=by rw [Int.natCast_mul]; exact hmb
  omega
 have hq:q≤q * by':=Nat.le_mul_of_pos_right _ hb0
 have hqb':(by':Int) * (q:Int)≤281474976710656:=by
  have:((by' * q:Nat):Int)≤281474976710656:=by rw [Nat.mul_comm]; omega
  rwa [Int.natCast_mul] at this
 have hr:=run_make (P:=P) w t e i z ht hi hz k k (q:Int) (q:Int) hm0 (Int.le_refl _) (by rw [hby]; exact hqb') (by omega)
 simp only [Int.toNat_natCast] at hr ⊢
 refine ⟨_,_,hr,upd κ σ.h.length (.slice (some ⟨w.heap.size,0,none⟩) q q),?_,?_⟩
 · have hBw:B.n≤w.heap.size:=by rw [H.base]; exact H.blw.size
   refine H.newOb (bQ w _) (fun g hg=>by cases hg; exact Nat.le_refl _) ?_
   simp only [aK]
   have hrp:rep M NX v' z:=F4 (ym hv) hpv
   have hk:=cg hrp lN (lb (Q1 hpv hnt))
   refine ⟨hn,by simp; omega,(madeCells z.cells (q * i.size)).toList,?_,?_,fun g hg=>.inl (by rw [aI] at hg; cases hg; exact hBw),fun g=>by rw [aI,bf]⟩
   · rw [bk]
     have hsz:=size_madeCells z.cells (q * n)
     rw [hs]
     refine ⟨by simp [hsz],.inr ⟨w.heap.size,q,_,by simp,Nat.zero_le _,heap_alloc_new w _,by simp,by simp only [maxLen]; omega,hsz,?_⟩⟩
     rw [List.take_of_length_le (by simp [hsz])]
   · rw [hs,←hzs,w7 _ _ (by omega)]
     exact kn hrp rfl hk.2 q
 · simp only [rep,XX]
   refine ⟨rfl,by simp,fun e2 sz2 l2 h2=>?_,fun e2 sz2 l2 l3 h2=>by simp at h2,fun o2 h2 hn=>by simp at h2; subst h2; cases hn⟩
   simp at h2
   obtain ⟨rfl,rfl,rfl⟩:=h2
   exact ⟨by simp,fun _=>bk.symm⟩
theorem I8 (H:Rel N M0 B w0 κ M σ a w) {t e:TypeId} {i:TypeInfo} {n by':Nat} {z:Value} (ht:P.underlying t=some (.slice e)) (hi:P.info? e=some i) (hz:i.zero=some z)
 (hs:i.size=n) (hby:i.bytes=by') (hb0:0 < by') (hn:0 < n) {m:Int} (hm0:0≤m) (hmb:m * by'≤140737488355328) {k k':IntKind}:
 ∃ c w',(Instr.makeSlice t (.int k' 0) (.int k m)).run P w=.ok c w'∧∃ κ',Rel N M0 B w0 κ' M { σ with h:=σ.h++[some (Ob.arr e n [])] } a w'∧rep M (XX κ' (σ.h++[some (Ob.arr e n [])])) (.ref σ.h.length 0) c:=by
 obtain ⟨q,rfl⟩:=Int.eq_ofNat_of_zero_le hm0
 have hqb:q * by'≤140737488355328:=by
  have:((q * by':Nat):Int)≤140737488355328:=by rw [Int.natCast_mul]; exact hmb
  omega
 have hq:q≤q * by':=Nat.le_mul_of_pos_right _ hb0
 have hqb':(by':Int) * (q:Int)≤281474976710656:=by
  have:((by' * q:Nat):Int)≤281474976710656:=by rw [Nat.mul_comm]; omega
  rwa [Int.natCast_mul] at this
 have hr:=run_make (P:=P) w t e i z ht hi hz k' k 0 (q:Int) (Int.le_refl _) hm0 (by rw [hby]; exact hqb') (by omega)
 simp only [Int.toNat_natCast,Int.toNat_zero] at hr
 refine ⟨_,_,hr,upd κ σ.h.length (.slice (some ⟨w.heap.size,0,none⟩) 0 q),?_,?_⟩
 · have hBw:B.n≤w.heap.size:=by rw [H.base]; exact H.blw.size
   refine H.newOb (bQ w _) (fun g hg=>by cases hg; exact Nat.le_refl _) ?_
   simp only [aK]
   refine ⟨hn,by simp,[],?_,by simp [al],fun g hg=>.inl (by rw [aI] at hg; cases hg; exact hBw),fun g=>by rw [aI,bf]⟩
   rw [bk]
   have hsz:=size_madeCells z.cells (q * n)
   rw [hs]
   exact ⟨by simp,.inr ⟨w.heap.size,q,_,by simp,Nat.zero_le _,heap_alloc_new w _,by simp,by simp only [maxLen]; omega,hsz,by simp⟩⟩
 · simp only [rep,XX]
   refine ⟨rfl,by simp,fun e2 sz2 l2 h2=>?_,fun e2 sz2 l2 l3 h2=>by simp at h2,fun o2 h2 hn=>by simp at h2; subst h2; cases hn⟩
   simp at h2
   obtain ⟨rfl,rfl,rfl⟩:=h2
   exact ⟨by simp,fun _=>bk.symm⟩
theorem I7 (H:Rel N M0 B w0 κ M σ a w) {t e e2:TypeId} {i:TypeInfo} {n by':Nat} (ht:P.underlying t=some (.slice e)) (hi:P.info? e=some i) (hz:i.zero=some (.slice none 0 0))
 (hs:i.size=1) (hby:i.bytes=by') (hb0:0 < by') (hn:0 < n) {m:Int} (hm0:0≤m) (hmb:m * by'≤140737488355328) {k:IntKind}:
 ∃ c w',(Instr.makeSlice t (.int k m) (.int k m)).run P w=.ok c w'∧∃ κ',Rel N M0 B w0 κ' M { σ with h:=σ.h++[some (Ob.mat e e2 n (List.replicate m.toNat (.a [])))] } a w'∧rep M (XX κ' (σ.h++[some (Ob.mat e e2 n (List.replicate m.toNat (.a [])))])) (.ref σ.h.length m.toNat) c:=by
 obtain ⟨q,rfl⟩:=Int.eq_ofNat_of_zero_le hm0
 have hqb:q * by'≤140737488355328:=by
  have:((q * by':Nat):Int)≤140737488355328:=by rw [Int.natCast_mul]; exact hmb
  omega
 have hq:q≤q * by':=Nat.le_mul_of_pos_right _ hb0
 have hqb':(by':Int) * (q:Int)≤281474976710656:=by
  have:((by' * q:Nat):Int)≤281474976710656:=by rw [Nat.mul_comm]; omega
  rwa [Int.natCast_mul] at this
 have hr:=run_make (P:=P) w t e i _ ht hi hz k k (q:Int) (q:Int) hm0 (Int.le_refl _) (by rw [hby]; exact hqb') (by omega)
 simp only [Int.toNat_natCast] at hr ⊢
 refine ⟨_,_,hr,bS κ σ.h.length (.slice (some ⟨w.heap.size,0,none⟩) q q) (fun _=>.slice none 0 0) (fun g=>g=w.heap.size),?_,?_⟩
 · have hBw:B.n≤w.heap.size:=by rw [H.base]; exact H.blw.size
   have rs:∀ {j:Nat} {s:List V},aL (List.replicate q (.a [])) j=some s→s=[]∧j < q:=by
    intro j s h
    obtain ⟨h1,h2⟩:=mU h
    simp at h2
    rw [List.getElem?_replicate,if_pos h2] at h1
    cases h1
    exact ⟨rfl,h2⟩
   refine H.newOb (bQ w _) (fun g hg=>by rw [hg]; exact Nat.le_refl _) ?_
   simp only [aK]
   rw [bf,kh,aI]
   have hc:(Value.slice none 0 0).cells=#[Value.slice none 0 0]:=rfl
   have hcells:(madeCells (Value.slice none 0 0).cells (q * i.size)).toList=List.replicate q (.slice none 0 0):=by
    rw [hs,Nat.mul_one]
    apply List.ext_getElem?
    intro j
    simp [madeCells,hc,List.getElem?_replicate]
    by_cases hj:j < q
    · simp [hj,Nat.mod_one]
    · simp [hj]
   refine ⟨hn,by simp; omega,⟨(madeCells (Value.slice none 0 0).cells (q * i.size)).toList,?_,?_,?_⟩,?_,?_,?_,fun g hg=>.inl (by rw [hg]; exact hBw),fun g=>?_⟩
   · have hsz:=size_madeCells (Value.slice none 0 0).cells (q * 1)
     rw [hs,List.length_replicate]
     refine ⟨by rw [Array.length_toList,hsz],.inr ⟨w.heap.size,q,_,rfl,Nat.zero_le _,heap_alloc_new w _,Nat.le_refl _,by simp only [maxLen]; omega,hsz,?_⟩⟩
     rw [List.take_of_length_le (by rw [Array.length_toList,hsz]; exact Nat.le_refl _)]
   · intro u hu
     rw [hcells] at hu
     rw [(List.mem_replicate.1 hu).2]
     rfl
   · intro j r hj
     rw [hcells,List.getElem?_replicate,if_pos (rs hj).2]
   · intro j r hj
     rw [(rs hj).1]
     exact ⟨by simp,[],World.ownsRow_nil _ 0 e2 n,by simp [al]⟩
   · intro j k r s g _ _ h
     cases h
   · intro j r g _ h
     cases h
   · constructor
     · intro h; exact .inl (by rw [h]; rfl)
     · rintro (h | ⟨_,_,_,h⟩)
       · cases h; rfl
       · cases h
 · simp only [rep,XX]
   refine ⟨rfl,by simp,fun e3 sz2 l2 h2=>by simp at h2,fun e3 sz2 l2 l3 h2=>?_,fun o2 h2 hn=>by simp at h2; subst h2; cases hn⟩
   simp at h2
   obtain ⟨rfl,rfl,rfl,rfl⟩:=h2
   exact ⟨by simp,fun _=>bf.symm⟩
theorem rX:∀ {l:List V} {s:List UInt8},cz l=some s→s.length=l.length∧∀ (j:Nat) (b:UInt8),s[j]?=some b→∃ n,l[j]?=some (.int .u8 n)∧b=UInt8.ofNat n.toNat
 | [],s,h=>by simp only [cz,Option.some.injEq] at h; subst h; simp
 | v::l,s,h=>by
   cases v<;>try (simp only [cz] at h; cases h; done)
   rename_i k n
   cases k<;>try (simp only [cz] at h; cases h; done)
   simp only [cz,Option.map_eq_some_iff] at h
   obtain ⟨t,h1,rfl⟩:=h
   obtain ⟨h2,h3⟩:=rX h1
   refine ⟨by simp [h2],fun j b hj=>?_⟩
   cases j with
   | zero=>simp at hj; exact ⟨n,by simp,hj.symm⟩
   | succ j=>simp at hj; simpa using h3 j b hj
theorem J0 (H:Rel N M0 B w0 κ M σ a w) {s d e:TypeId} {x:Operand} {u:AO} (hx:cO P s x=some u) (hs:P.underlying s=some (.slice e)) (he:P.underlying e=some (.int .u8)) (hd:P.underlying d=some .string)
 {v:V} (hv:σ.val (.b2s u)=some v):∃ c,(convert s d (a.eval x)).run P w=.ok c w∧rep M (XX κ σ.h) v c:=by
 simp only [St.val] at hv
 split at hv
 · rename_i v0 hv0
   split at hv
   · rename_i l hl
     simp only [Option.map_eq_some_iff] at hv
     obtain ⟨t,ht,rfl⟩:=hv
     have hr:=oO H H.snd (fun _ _ _ _ _ _=>rfl) (H.op hx hv0) hl
     simp only [rep] at hr
     obtain ⟨p,cap,e1,_,hlen,_,hmem⟩:=hr
     obtain ⟨hlt,hget⟩:=rX ht
     rcases hmem with rfl | ⟨b,off,rfl,hm⟩
     · have:t=[]:=by simpa using hlt
       subst this
       refine ⟨.string .empty,?_,by simp only [rep]; exact ⟨_,rfl,rfl,by simp⟩⟩
       rw [e1]
       cases p with
       | none=>exact run_convert_bytes_nil w s e hs he _ _ d hd
       | some p=>exact run_convert_bytes_back w s d e p cap [] hs he hd (fun j hj=>by simp at hj)
     · refine ⟨.string ⟨t.toArray⟩,?_,by simp only [rep]; exact ⟨_,rfl,rfl,by omega⟩⟩
       rw [e1,←hlt]
       refine run_convert_bytes_back w s d e _ cap t hs he hd fun j hj=>?_
       obtain ⟨n,h1,h2⟩:=hget j t[j] (by simp)
       obtain ⟨y,g1,g2,g3,g4⟩:=k8 hm h1
       simp only [rep] at g1
       obtain ⟨rfl,hn1,hn2⟩:=g1
       have:=g4 0 (by omega)
       rw [Addr.add_lit]
       simp only [Nat.mul_one,Nat.add_zero] at this
       rw [this,h2]
       have hmin:IntKind.u8.min=0:=by decide
       have hmax:IntKind.u8.max=255:=by decide
       rw [hmin] at hn1
       rw [hmax] at hn2
       have hn:n.toNat < 256:=by omega
       simp only [Value.cells,List.getElem?_toArray,List.getElem?_cons_zero]
       congr 2
       simp [UInt8.toNat_ofNat,Nat.mod_eq_of_lt hn,Int.toNat_of_nonneg hn1]
   · cases hv
 · cases hv
theorem I6 (H:Rel N M0 B w0 κ M σ a w) {t:TypeId} {kt:KT}:∃ c w',(Instr.makeMap t none).run P w=.ok c w'∧∃ κ',Rel N M0 B w0 κ' M { σ with h:=σ.h++[some (Ob.mp kt [])] } a w'∧rep M (XX κ' (σ.h++[some (Ob.mp kt [])])) (.ref σ.h.length 0) c:=by
 refine ⟨_,_,run_makeMap (P:=P) t w,bS κ σ.h.length (.map (some w.heap.size)) (fun _=>.nilFunc) (fun g=>g=w.heap.size),?_,?_⟩
 · have hBw:B.n≤w.heap.size:=by rw [H.base]; exact H.blw.size
   refine H.newOb (bQ w _) (fun g hg=>by rw [hg]; exact Nat.le_refl _) ?_
   simp only [aK]
   rw [bf,aI]
   refine ⟨w.heap.size,#[],0,rfl,.inl hBw,?_,rfl,fun g=>Iff.rfl⟩
   show (w.heap.push _)[w.heap.size]?=_
   simp
 · simp only [rep,XX]
   refine ⟨rfl,by simp,fun e2 sz2 l2 h2=>by simp at h2,fun e2 sz2 l2 l3 h2=>by simp at h2,fun e2 l3 h2=>?_⟩
   rw [bf]
theorem O5 {σ:St} {id:Nat} {x:List UInt8 × Nat} (h:σ.itr? id=some x):σ.h[id]?=some (some (.itr x.1 x.2)):=by
 unfold St.itr? at h
 split at h
 · cases h; assumption
 · cases h
theorem AN (H:Rel N M0 B w0 κ M σ a w) {t K E:TypeId} {kt:KT} (ht:P.underlying t=some (.map K E)) (hk:ktT P K=some kt) {id:Nat} {l:List (V × V)} (hm:σ.h[id]?=some (some (.mp kt l))) {kv u':V} {c d:Value}
 (hf:aO kt kv=true) (hc:rep M (XX κ σ.h) kv c) (hd:rep M NX u' d):∃ w',(Instr.mapUpdate t (κ id) c d).run P w=.ok () w'∧∃ κ',Rel N M0 B w0 κ' M { σ with h:=σ.h.set id (some (Ob.mp kt (io kv u' l))) } a w':=by
 obtain ⟨b,es,clock,e1,e2,e3,e4,e5⟩:=H.heap id _ hm
 obtain ⟨r,g1,g2⟩:=DO hk hf hc w l es.toList e4
 have gc:=Au hk hf hc false w
 have hobj:=Go.MapKept.run_getObj_map (P:=P) e3
 have hkN:rep M NX kv c:=by
  have:=ir hk hf hc
  refine Rq hf hc
 have fin:∀ (es':Array MapEntry) (clock':Nat),jW M kt (io kv u' l) es'.toList→∃ κ',Rel N M0 B w0 κ' M { σ with h:=σ.h.set id (some (Ob.mp kt (io kv u' l))) } a { w with heap:=w.heap.setIfInBounds b (.map es' clock') }:=by
  intro es' clock' hes
  have hlt:b < w.heap.size:=(Array.getElem?_eq_some_iff.1 e3).1
  refine ⟨bS κ id (κ id) (κ.row id) (κ.bl id),H.setOb hm ⟨rfl,rfl,rfl,by simp,fun k hk1 hk2=>?_,fun k cur T z hc=>⟨cur,T,z,by
   have:b≠k:=fun e=>by subst e; rw [e3] at hc; cases hc
   simp [Array.getElem?_setIfInBounds,this,hc],rfl⟩⟩ (fun k hk1 hk2=>?_) (fun g hg=>.inl hg) (fun v c hx=>ke hm hx (fun _ h=>by cases h) (fun _ _ _ h=>by cases h) (fun _ _ _ _ h=>by cases h) (fun _=>⟨rfl,rfl⟩)) ?_⟩
  · have:b≠k:=fun e=>by
     subst e
     rcases e2 with h | h
     · omega
     · exact hk2 h
    simp [Array.getElem?_setIfInBounds,this]
  · have:b≠k:=fun e=>hk2 (by subst e; exact (e5 b).2 rfl)
    simp [Array.getElem?_setIfInBounds,this]
  · simp only [aK]
    rw [bf,aI]
    exact ⟨b,es',clock',e1,e2,by simp [Array.getElem?_setIfInBounds,hlt],hes,e5⟩
 rcases g2 with ⟨rfl,g3,g4⟩ | ⟨j,e,k',v2,rfl,hj,g3,_,hfk,hke,heq,g4⟩
 · refine ⟨_,?_,fin (es.push { key:=c,val:=d,born:=clock }) (clock + 1) (by simpa using g4 { key:=c,val:=d,born:=clock } u' hf hkN hd)⟩
   unfold Instr.mapUpdate
   simp [run_underlying ht,e1,hobj,gc,g1,Go.MapKept.run_setObj_map _ e3]
 · have hcc:e.key=c:=(L3 hf hfk heq hc hke).symm
   have hjs:es[j]?=some e:=by simpa using hj
   have hst:(Instr.keyThatStays (((es[j]?).map (·.key)).getD c) c).run P w=.ok c w:=by
    rw [hjs]
    simp only [Option.map_some,Option.getD_some,hcc,Instr.keyThatStays,JY hf hc,if_true]
    rfl
   refine ⟨_,?_,fin (es.modify j fun e=>{ e with key:=c,val:=d }) clock (by simpa using g4 (fun e=>{ e with key:=c,val:=d }) u' hf (fun _=>⟨hkN,hd⟩))⟩
   unfold Instr.mapUpdate
   simp [run_underlying ht,e1,hobj,gc,g1,hst,Go.MapKept.run_setObj_map _ e3]
theorem Pe {bs:ByteArray} {p:Nat}:xY bs.data.toList p=Utf8.decode bs p:=by
 unfold xY
 rw [Array.toArray_toList]
theorem IR (H:Rel N M0 B w0 κ M σ a w) {t:TypeId} (ht:P.underlying t=some .string) {bs:ByteArray} (hl:bs.data.toList.length≤4611686018427387904):∃ c w',(Instr.range t (.string bs)).run P w=.ok c w'∧∃ κ',Rel N M0 B w0 κ' M { σ with h:=σ.h++[some (Ob.itr bs.data.toList 0)] } a w'∧rep M (XX κ' (σ.h++[some (Ob.itr bs.data.toList 0)])) (.ref σ.h.length 0) c:=by
 refine ⟨_,_,run_range_string (P:=P) w t bs ht,bS κ σ.h.length (.pointer (some ⟨w.heap.size,0,none⟩)) (fun _=>.nilFunc) (fun g=>g=w.heap.size),?_,?_⟩
 · have hBw:B.n≤w.heap.size:=by rw [H.base]; exact H.blw.size
   refine H.newOb (bQ w _) (fun g hg=>by rw [hg]; exact Nat.le_refl _) ?_
   simp only [aK]
   rw [bf,aI]
   exact ⟨w.heap.size,bs,rfl,.inl hBw,World.iter_heap w bs 0,rfl,hl,fun g=>Iff.rfl⟩
 · simp only [rep,XX]
   refine ⟨rfl,by simp,fun e2 sz2 l2 h2=>by simp at h2,fun e2 sz2 l2 l3 h2=>by simp at h2,fun e2 l3 h2=>?_⟩
   rw [bf]
theorem DN {b p:Nat} {bs:ByteArray} {ty:TypeId} (h:w.heap[b]?=some (.stringIter bs p)):(Instr.next (.pointer (some ⟨b,0,none⟩)) true ty).run P w=
 if p < bs.size then .ok (.tuple #[.bool true,.int .i64 p,.int .i32 (Utf8.decode bs p).1]) { w with heap:=w.heap.setIfInBounds b (.stringIter bs (p + (Utf8.decode bs p).2)) } else .ok (.tuple #[.bool false]) w:=by
 by_cases hp:p < bs.size
 · simp only [Instr.next,getObj,setObj,Sem.run_bind,Sem.run,h,Result.andThen,hp,if_true]
   simp [goInt]
 · simp [Instr.next,getObj,Sem.run,h,hp]
theorem I2 (H:Rel N M0 B w0 κ M σ a w) {id:Nat} {s:List UInt8} {p:Nat} (hm:σ.h[id]?=some (some (.itr s p))) {ty:TypeId}:
 (p < s.length→∃ w' κ',(Instr.next (κ id) true ty).run P w=.ok (.tuple #[.bool true,.int .i64 p,.int .i32 (xY s p).1]) w'∧Rel N M0 B w0 κ' M { σ with h:=σ.h.set id (some (Ob.itr s (p + (xY s p).2))) } a w')∧
 (¬p < s.length→(Instr.next (κ id) true ty).run P w=.ok (.tuple #[.bool false]) w)∧s.length≤4611686018427387904:=by
 obtain ⟨b,bs,e1,e2,e3,rfl,e5,e6⟩:=H.heap id _ hm
 have hsz:bs.size=bs.data.toList.length:=by show bs.data.size=_; rw [Array.length_toList]
 rw [e1,DN e3,hsz,Pe]
 refine ⟨fun hp=>?_,fun hp=>by rw [if_neg hp],e5⟩
 rw [if_pos hp]
 have hlt:b < w.heap.size:=(Array.getElem?_eq_some_iff.1 e3).1
 have hne:∀ k,k≠b→({ w with heap:=w.heap.setIfInBounds b (.stringIter bs (p + (Utf8.decode bs p).2)) }:World).heap[k]?=w.heap[k]?:=fun k hk=>Array.getElem?_setIfInBounds_ne (Ne.symm hk)
 refine ⟨_,bS κ id (κ id) (κ.row id) (fun g=>g=b),rfl,?_⟩
 refine H.setOb hm ⟨rfl,rfl,rfl,by simp,fun k hk hs=>hne k (fun e=>by subst e; rcases e2 with h | h; omega; exact hs h),fun k cur T z hc=>?_⟩ (fun k hk1 hk2=>hne k (fun e=>hk2 ((e6 k).2 e))) (fun g hg=>.inl ((e6 g).2 hg))
  (fun v c hx=>ke hm hx (fun _ h=>by cases h) (fun _ _ _ h=>by cases h) (fun _ _ _ _ h=>by cases h) (fun _=>⟨rfl,rfl⟩)) ?_
 · have:k≠b:=by rintro rfl; rw [e3] at hc; cases hc
   exact ⟨cur,T,z,by rw [hne k this]; exact hc,rfl⟩
 · simp only [aK]
   rw [bf,aI]
   exact ⟨b,bs,e1,e2,by simp [hlt],rfl,e5,fun g=>Iff.rfl⟩
theorem JR (hJC:qq P M0 B) (H:Rel N M0 B w0 κ M σ a w) {ty:TypeId} {op:Op} {act:Act'} (hl:LE P ty op act) (hny:∀ g xs,act≠.yld g xs) {d:Option Nat} (hd:∀ t,d=some t→t < N∧t ∉ B.ps) {K:St→Prop} (hW:af (Cn P) d act K σ)
 {Nx:Act→World→Prop} (hK:∀ κ' M' σ' a' w',K σ'→Rel N M0 B w0 κ' M' σ' a' w'→Nx a' w') {Q:Exit→Act→World→Prop} (o:Oper) (ho:o.op=op) (hty:o.type=ty) (hod:o.dst=d):o.wp P a w Nx Q:=by
 unfold Oper.wp execOp
 subst hod
 cases hl<;>rw [ho]<;>dsimp only
 case alloc e i z v hi hz hv hnt=>
  simp only [af] at hW
  have hr:=ym hv (M:=M) (X:=NX)
  have hk:=cg hr lN (lb hnt)
  have ho':aK (upd κ σ.h.length (.pointer (some ⟨w.heap.size,0,none⟩))) M (XX (upd κ σ.h.length (.pointer (some ⟨w.heap.size,0,none⟩))) (σ.h++[some (Ob.box (cl v))])) B (w.alloc (.cells z.cells e)) σ.h.length (.box (cl v)):=by
   simp only [aK]
   refine ⟨w.heap.size,z.cells,e,bk,.inl (by rw [H.base]; exact H.blw.size),heap_alloc_new w _,aR (fun _ _ h=>h) (fun _ _ h=>h.elim) _ _ hk.1,hk.2,fun g=>by rw [aI]; simp only [blk,Option.some.injEq]; exact eq_comm⟩
  have H':=H.newOb (bQ w _) (kv:=.pointer (some ⟨w.heap.size,0,none⟩)) (fun g hg=>by cases hg; exact Nat.le_refl _) ho'
  have hfin:=hK _ _ _ _ _ hW (H'.put' (c:=.pointer (some ⟨w.heap.size,0,none⟩)) hd (by
   simp only [rep,XX]
   exact ⟨rfl,by simp,fun cs _=>⟨w.heap.size,bk,rfl⟩⟩))
  simp [Instr.alloc,zeroValue,typeInfo,hi,hz,newVar,newRow,Oper.upon]
  exact hfin
 case box e x y hx=>
  simp only [af] at hW
  split at hW
  · rename_i v hv
    split at hW
    · rename_i hnt
      have hr:=H.op hx hv
      have hk:=cg hr Du (lb hnt)
      have hX:∀ u c,XX κ σ.h u c→XX (upd κ σ.h.length (.pointer (some ⟨w.heap.size,0,none⟩))) (σ.h++[some (Ob.box (cl v))]) u c:=fun u c hx=>Ih hx (by simp) (fun i hi=>KQ (by omega)) (fun i hi=>(bJ (by omega)).2.1) (fun i ob' hi h=>by rwa [List.getElem?_append_left hi] at h)
      have ho':aK (upd κ σ.h.length (.pointer (some ⟨w.heap.size,0,none⟩))) M (XX (upd κ σ.h.length (.pointer (some ⟨w.heap.size,0,none⟩))) (σ.h++[some (Ob.box (cl v))])) B (w.alloc (.cells (a.eval x).cells e)) σ.h.length (.box (cl v)):=by
       simp only [aK]
       exact ⟨w.heap.size,(a.eval x).cells,e,bk,.inl (by rw [H.base]; exact H.blw.size),heap_alloc_new w _,aR (fun _ _ h=>h) hX _ _ hk.1,hk.2,fun g=>by rw [aI]; simp only [blk,Option.some.injEq]; exact eq_comm⟩
      have H':=H.newOb (bQ w _) (kv:=.pointer (some ⟨w.heap.size,0,none⟩)) (fun g hg=>by cases hg; exact Nat.le_refl _) ho'
      have hfin:=hK _ _ _ _ _ hW (H'.put' (c:=.pointer (some ⟨w.heap.size,0,none⟩)) hd (by
       simp only [rep,XX]
       exact ⟨rfl,by simp,fun cs _=>⟨w.heap.size,bk,rfl⟩⟩))
      simp [Instr.box,newVar,newRow,Oper.upon]
      exact hfin
    · exact hW.elim
  · exact hW.elim
 case store t p x p' x' n hp hx hs=>
  simp only [af] at hW
  split at hW
  · rename_i pv v hpv hv
    split at hW
    · rename_i hnt
      split at hW
      · rename_i σ' hst
        obtain ⟨w',hrun,κ',M',H'⟩:=FH H hs (H.op hp hpv) (H.op hx hv) hnt hst
        have hfin:=hK _ _ _ _ _ hW (H'.undef hd)
        simp [hrun,Oper.upon]
        exact hfin
      · exact hW.elim
    · exact hW.elim
  · exact hW.elim
 case s2b s d x y e hx hs hd' he=>
  simp only [af] at hW
  split at hW
  · rename_i l hv
    obtain ⟨hlen,hW⟩:=hW
    obtain ⟨bs,hc,rfl,_⟩:=kZ (H.op hx hv)
    obtain ⟨c,w',hrun,M',H',hr⟩:=IM H bs hlen hs hd' he
    have hfin:=hK _ _ _ _ _ hW (H'.put' hd (aA hr))
    simp [hc,hrun,Oper.upon]
    exact hfin
  · exact hW.elim
 case lit t len parts xs e n i z ht hi hs h0 hz hzs hle hpi hps=>
  simp only [af] at hW
  split at hW
  · rename_i vs hvs
    split at hW
    · rename_i us hus
      obtain ⟨hsl,hul,hW⟩:=hW
      obtain ⟨c,w',hrun,κ',M',H',hr⟩:=Jh H ht hi hs h0 hz hzs hle hpi (H.ops hps hvs) hus hsl hul
      have hfin:=hK _ _ _ _ _ hW (H'.put' hd (aA hr))
      simp [hrun,Oper.upon]
      exact hfin
    · exact hW.elim
  · exact hW.elim
 case ltr t len parts xs e n i z ht hi hs h0 hz hzs hle hpi hps=>
  simp only [af] at hW
  split at hW
  · rename_i vs hvs
    split at hW
    · rename_i us hus
      obtain ⟨hsl,hul,hW⟩:=hW
      obtain ⟨c,w',hrun,κ',M',H',hr⟩:=Jf H ht hi hs h0 hz hzs hle hpi (H.ops hps hvs) hus hsl hul
      have hfin:=hK _ _ _ _ _ hW (H'.put' hd hr)
      simp [hrun,Oper.upon]
      exact hfin
    · exact hW.elim
  · exact hW.elim
 case app t x y x' y' e i z n by' ht hi hz hs hby hb0 hzs hn hx hy=>
  obtain ⟨c,w1,hr,hfin⟩:=J2 (ty:=o.type) H ht hi hz hs hby hb0 hzs hn hx hy hd hW hK
  simp [resolve,invoke,builtin,hr,Oper.upon]
  exact hfin
 case mks t l l' e i z v v' n by' ht hi hz hv hnt hpv hs hby hb0 hn hl' hzs=>
  simp only [af] at hW
  split at hW
  · rename_i k m hm
    obtain ⟨hm0,hmb,hW⟩:=hW
    obtain ⟨c,w',hrun,κ',H',hr⟩:=I5 H ht hi hz hv hnt hpv hs hby hb0 hn hzs hm0 hmb (k:=k)
    obtain ⟨em,_⟩:=bc (H.op hl' hm)
    have hfin:=hK _ _ _ _ _ hW (H'.put' hd hr)
    simp [em,hrun,Oper.upon]
    exact hfin
  · exact hW.elim
 case mk0 t k0 l l' e i z n by' ht hi hz hs hby hb0 hn hl'=>
  simp only [af] at hW
  split at hW
  · rename_i k m hm
    obtain ⟨hm0,hmb,hW⟩:=hW
    obtain ⟨c,w',hrun,κ',H',hr⟩:=I8 H ht hi hz hs hby hb0 hn hm0 hmb (k:=k) (k':=k0)
    obtain ⟨em,_⟩:=bc (H.op hl' hm)
    have hfin:=hK _ _ _ _ _ hW (H'.put' hd hr)
    have ec:a.eval (.const (.int k0 0))=.int k0 0:=rfl
    simp [em,ec,hrun,Oper.upon]
    exact hfin
  · exact hW.elim
 case mkm t l l' e i n by' e2 i2 ht hi hz hs hby hb0 ht2 hi2 hs2 hn hl'=>
  simp only [af] at hW
  split at hW
  · rename_i k m hm
    obtain ⟨hm0,hmb,hW⟩:=hW
    obtain ⟨c,w',hrun,κ',H',hr⟩:=I7 (e2:=e2) H ht hi hz hs hby hb0 hn hm0 hmb (k:=k)
    obtain ⟨em,_⟩:=bc (H.op hl' hm)
    have hfin:=hK _ _ _ _ _ hW (H'.put' hd hr)
    simp [em,hrun,Oper.upon]
    exact hfin
  · exact hW.elim
 case mkp t K E kt ht hk=>
  simp only [af] at hW
  obtain ⟨c,w',hrun,κ',H',hr⟩:=I6 (P:=P) (t:=t) (kt:=kt) H
  have hfin:=hK _ _ _ _ _ hW (H'.put' hd hr)
  simp [hrun,Oper.upon]
  exact hfin
 case mup t K E x k v u b c kt ht hk hx hkk hvv=>
  simp only [af] at hW
  split at hW
  · rename_i id n kv u1 h1 h2 h3
    split at hW
    · rename_i kt' l u' hm hp
      obtain ⟨rfl,hf,hvi,hnt,hW⟩:=hW
      have hmp:=Cd hm
      have r1:=H.op hx h1
      simp only [rep,XX] at r1
      have ex:=r1.2.2.2.2 _ hmp rfl
      have hd':=oO H (fun _ _ h=>h) (fun id hid=>by rw [hvi] at hid; cases hid) (H.op hvv h3) hp
      obtain ⟨w',hrun,κ',H'⟩:=AN (P:=P) H ht hk hmp hf (H.op hkk h2) hd'
      have hfin:=hK _ _ _ _ _ hW (H'.undef hd)
      simp [ex,hrun,Oper.upon]
      exact hfin
    · exact hW.elim
  · exact hW.elim
 case mui t K E x k v u b c kt ht hk hx hkk hvv=>
  simp only [af] at hW
  split at hW
  · rename_i id n kv u1 h1 h2 h3
    split at hW
    · rename_i kt' l u' hm hp
      obtain ⟨rfl,hf,hvi,hnt,hW⟩:=hW
      have hmp:=Cd hm
      have r1:=H.op hx h1
      simp only [rep,XX] at r1
      have ex:=r1.2.2.2.2 _ hmp rfl
      have hd':=oO H (fun _ _ h=>h) (fun id hid=>by rw [hvi] at hid; cases hid) (H.op hvv h3) hp
      obtain ⟨w',hrun,κ',H'⟩:=AN (P:=P) H ht hk hmp hf (H.op hkk h2) hd'
      have hfin:=hK _ _ _ _ _ hW (H'.undef hd)
      simp [ex,hrun,Oper.upon]
      exact hfin
    · exact hW.elim
  · exact hW.elim
 case call f args ts xs hx=>
  simp only [af] at hW
  split at hW
  · rename_i vs hvs
    split at hW
    · rename_i us hus
      have hcs:=H.ops hx hvs
      have:=rl H hd hW hus (cs:=args.map a.eval) (by simpa using hcs) hK (Q:=Q) o rfl
      simpa [resolve,Deferred.ofValue,invoke,Act.eval] using this
    · have:=jO H hJC hd hW (cs:=args.map a.eval) (by simpa using H.ops hx hvs) hK (Q:=Q) o rfl
      simpa [resolve,Deferred.ofValue,invoke,Act.eval] using this
  · exact hW.elim
 case inv r x name args ts xs tbl hx ht hxs=>
  simp only [af] at hW
  split at hW
  · rename_i t v vs he hvs
    split at hW
    · rename_i f hf
      subst ht
      have hr:=H.op hx he
      simp only [rep] at hr
      obtain ⟨y,ey,hy⟩:=hr
      have hcs:aa M (XX κ σ.h) (v::vs) (#[y]++args.map a.eval).toList:=by
       have:=H.ops hxs hvs
       simp only [Array.toList_append,List.cons_append,List.nil_append,aa]
       exact ⟨y,_,rfl,hy,by simpa using this⟩
      have hrun:((do let d ←resolve a.eval { callee:=.invoke r name,args:=args,argTypes:=ts } o.type; invoke d.target d.args:Sem Next)).run P w=(callFunc f (#[y]++args.map a.eval)).run P w:=by
       have e0:∀ l:Array Value,(#[Value.iface t y]++l)[0]?=some (.iface t y):=fun l=>by simp [Array.getElem?_append]
       have e1:(args.map a.eval).extract 0 args.size=args.map a.eval:=by simp
       simp [resolve,invoke,callMethod,ey,Made.depth,FX hf,e0,e1]
      rw [hrun]
      split at hW
      · rename_i us hus
        exact rl H hd hW hus hcs hK (Q:=Q) o rfl
      · exact jO H hJC hd hW hcs hK (Q:=Q) o rfl
    · exact hW.elim
  · exact hW.elim
 case trc t x hi u hi' e n hx hh ht hs=>
  simp only [af] at hW
  split at hW
  · rename_i id m k b he hb
    split at hW
    · rename_i e' sz' l hal
      obtain ⟨rfl,hn,hb0,hbn,hW⟩:=hW
      have ha:=dI hal
      simp only at ha
      have hr:=H.op hx he
      simp only [rep,XX] at hr
      have hck:=(hr.2.2.1 _ _ _ ha).2 hn
      obtain ⟨ei,_⟩:=bc (H.op hh hb)
      obtain ⟨h0,hll,xs,ho,hrow,_⟩:=H.heap id _ ha
      have hsl:∃ (ad:Option Addr) (cap:Nat),κ id=.slice ad l.length cap∧l.length≤cap∧∀ q,ad.map (·.add (0 * q))=ad:=by
       rcases ho.2 with ⟨h4,h5⟩ | ⟨g,cap,cur,h4,h5,h6,h7,_⟩
       · exact ⟨none,0,by rw [h4,h5],by omega,fun q=>rfl⟩
       · exact ⟨some ⟨g,0,none⟩,cap,h4,h7,fun q=>by simp [Addr.add_lit]⟩
      obtain ⟨ad,cap,hκ,hcap,hadd⟩:=hsl
      obtain ⟨κ',H',hk'⟩:=H.trunc ha (b:=b.toNat) (by omega) hκ
      have b3:(Instr.sliceBounds true l.length cap none (some (.int k b)) none).run P w=.ok (0,b.toNat,cap) w:=
       qx (p:=0) (q:=b.toNat) (.inr ⟨k,b,rfl,by omega,by omega,rfl⟩) (.inl ⟨rfl,rfl⟩) w
      have hfin:=hK _ _ _ _ _ hW (H'.put' hd (c:=.slice ad b.toNat cap) (by
       simp only [rep,XX]
       refine ⟨rfl,by simp,fun e2 sz2 l2 h2=>?_,fun e2 sz2 l2 l3 h2=>by simp at h2,fun o2 h2 hn=>by simp at h2; subst h2; cases hn⟩
       simp at h2
       obtain ⟨rfl,rfl,rfl⟩:=h2
       exact ⟨by simp; omega,fun _=>hk'.symm⟩))
      have hrun:(Instr.sliceAt t (a.eval x) none (some (a.eval hi)) none).run P w=.ok (.slice ad b.toNat cap) w:=by
       rw [hck] at *
       simp [Instr.sliceAt,run_underlying ht,Instr.slice,hκ,ei,b3,aU hs]
       intro hc0
       simpa using hadd sz'
      simp only [Option.map_none,Option.map_some]
      simp [hrun,Oper.upon]
      exact hfin
    · exact hW.elim
  · exact hW.elim
 case callH f args ts xs hx=>
  simp only [af] at hW
  split at hW
  · rename_i vs hvs
    have:=jO H hJC hd hW (cs:=args.map a.eval) (by simpa using H.ops hx hvs) hK (Q:=Q) o rfl
    simpa [resolve,Deferred.ofValue,invoke,Act.eval] using this
  · exact hW.elim
 case b2s s d x u e hx hs he hd'=>
  simp only [af] at hW
  split at hW
  · rename_i v hv
    obtain ⟨c,hrun,hc⟩:=J0 H hx hs he hd' hv
    have hfin:=hK _ _ _ _ _ hW (H.put' hd hc)
    simp [hrun,Oper.upon]
    exact hfin
  · exact hW.elim
 case yld g args ts xs hx=>exact (hny _ _ rfl).elim
 case rgs t x u hx ht=>
  simp only [af] at hW
  split at hW
  · rename_i s hv
    obtain ⟨bs,hc,rfl,hl⟩:=kZ (H.op hx hv)
    obtain ⟨c,w',hrun,κ',H',hr⟩:=IR (P:=P) H ht hl
    have hfin:=hK _ _ _ _ _ hW (H'.put' hd hr)
    simp [hc,hrun,Oper.upon]
    exact hfin
  · exact hW.elim
 case nxs x u hx=>
  simp only [af] at hW
  split at hW
  · rename_i id n hv
    split at hW
    · rename_i s p hi
      have hid:=O5 hi
      have r1:=H.op hx hv
      simp only [rep,XX] at r1
      have ex:=r1.2.2.2.2 _ hid rfl
      obtain ⟨h1,h2,h3⟩:=I2 (P:=P) (ty:=o.type) H hid
      split at hW
      · rename_i hp
        obtain ⟨w',κ',hrun,H'⟩:=h1 hp
        have hdl:(xY s p).1≤2147483647:=decode_le _ _
        have hsl:s.length≤4611686018427387904:=h3
        have hp':p < s.length:=hp
        have hfin:=hK _ _ _ _ _ hW (H'.put' hd (c:=.tuple #[.bool true,.int .i64 p,.int .i32 (xY s p).1]) (by
         simp only [rep,aa]
         exact ⟨_,rfl,_,_,rfl,rfl,_,_,rfl,⟨rfl,by simp [IntKind.min,IntKind.signed,IntKind.bits]<;>omega,by simp [IntKind.max,IntKind.signed,IntKind.bits]<;>omega⟩,_,_,rfl,⟨rfl,by simp [IntKind.min,IntKind.signed,IntKind.bits]<;>omega,by simp [IntKind.max,IntKind.signed,IntKind.bits]<;>omega⟩,rfl⟩))
        simp [ex,hrun,Oper.upon]
        exact hfin
      · rename_i hp
        have hfin:=hK _ _ _ _ _ hW (H.put' hd (c:=.tuple #[.bool false]) (by
         simp only [rep,aa]
         exact ⟨_,rfl,_,_,rfl,rfl,rfl⟩))
        simp [ex,h2 hp,Oper.upon]
        exact hfin
    · exact hW.elim
  · exact hW.elim
 case callv g args ts xs hx=>
  simp only [af] at hW
  split at hW
  · rename_i f x y vs hg hvs
    split at hW
    · rename_i us hus
      have hcs:=H.ops hx hvs
      simp only [St.ev] at hg
      have hrg:=H.ev hg
      simp only [rep] at hrg
      obtain ⟨a1,a2,e1,h1,h2⟩:=hrg
      have:=rl H hd hW hus (cs:=a1++args.map a.eval++a2) (by simpa using ci h1 (ci hcs h2)) hK (Q:=Q) o rfl
      simpa [resolve,Deferred.ofValue,invoke,e1] using this
    · have hcs:=H.ops hx hvs
      simp only [St.ev] at hg
      have hrg:=H.ev hg
      simp only [rep] at hrg
      obtain ⟨a1,a2,e1,h1,h2⟩:=hrg
      have:=jO H hJC hd hW (cs:=a1++args.map a.eval++a2) (by simpa using ci h1 (ci hcs h2)) hK (Q:=Q) o rfl
      simpa [resolve,Deferred.ofValue,invoke,e1] using this
  · exact hW.elim
end
section
variable {P:Program} {N:Nat} {M0:Mem} {B:Bas} {w0:World} {κ:Kap} {M:Mem} {σ:St} {a:Act} {w w':World}
theorem FI {ρ:Option Nat} {m m':Machine} (h:Steps P m m'):StepsIn (Machine.fenced P (FR ρ)) P m m':=stepsIn_wide.2 h
theorem Hb {ρ:Option Nat} {m m':Machine} {e:Ending} (h:Comes P m m' e):ComesIn (Machine.fenced P (FR ρ)) P m m' e:=comesIn_wide.2 h
theorem He {ρ:Option Nat} {n:Nat} {f:FuncId} {args:Array Value} {R:Ending→World→Prop} (h:Calls P f args w R):CallsIn (FR ρ) n P f args w R:=
 ⟨trivial,fun cs _=>let ⟨e,w',fr,r,s,x⟩:=h cs; ⟨e,w',fr,r,Hb s,x⟩⟩
theorem IA {o:Oper} {Nx:Act→World→Prop} {Q:Exit→Act→World→Prop} {ρ:Option Nat} {r:Result Next} (h:o.upon P a Nx Q r):o.uponIn (FR ρ) 0 P a Nx Q r:=by
 cases r with
 | ok x w'=>
   cases x<;>simp only [Oper.upon] at h<;>simp only [Oper.uponIn]<;>first
    | exact h
    | exact h.elim
    | exact ⟨fun h=>(by cases h),He h⟩
    | exact ⟨fun h=>(by cases h),fun c cs _=>let ⟨v,w',r,s⟩:=h c cs; ⟨v,w',r,FI s⟩⟩
 | halt x w'=>cases x<;>simp only [Oper.upon] at h<;>simp only [Oper.uponIn]<;>exact h
theorem Hs {o:Oper} {Nx:Act→World→Prop} {Q:Exit→Act→World→Prop} {ρ:Option Nat} (h:o.wp P a w Nx Q) (hd:∀ c,o.op≠.defer c):o.wpIn (FR ρ) 0 P a w Nx Q:=by
 refine ⟨fun _ _=>trivial,?_⟩
 rw [Oper.semAt_eq _ _ _ hd]
 exact IA h
theorem Ne {ty:TypeId} {op:Op} {act:Act'} (h:LE P ty op act):∀ c,op≠.defer c:=by
 cases h<;>(intro c hc; cases hc)
theorem SC {ty:TypeId} {op:Op} {act:Act'} (h:LV P ty op act):∀ c,op≠.defer c:=by
 cases h<;>(intro c hc; cases hc)
theorem Rel.env (H:Rel N M0 B w0 κ M σ a w) {id k:Nat} {l l':List (V × Bool)} (hid:σ.h[id]?=some (some (.gh l))) (hk:κ id=.func (.yield k) #[] #[]) {S':Nat→Prop} {M':Mem} (E:EnvStep (κ.bl id) w S' M M' w') (hJ:B.J k l' S' M' w'):
 Rel N M0 B w0 (bS κ id (κ id) (κ.row id) S') M' { σ with h:=σ.h.set id (some (.gh l')) } a w':=by
 have hlt:id < σ.h.length:=(List.getElem?_eq_some_iff.1 hid).1
 obtain ⟨_,_,_,hown⟩:=H.heap id _ hid
 have hu:Und B w w':=⟨E.os,E.tape,E.output,E.size,fun g hg hs=>E.block g (by rw [H.base] at hg; have:=H.blw.size; omega) (fun h=>(hown g h).1.elim (fun h=>by omega) hs),E.siz⟩
 have hX:∀ v c,XX κ σ.h v c→XX (bS κ id (κ id) (κ.row id) S') (σ.h.set id (some (.gh l'))) v c:=fun v c hx=>
  ke hid hx (fun _ h=>by cases h) (fun _ _ _ h=>by cases h) (fun _ _ _ _ h=>by cases h) (fun _=>⟨rfl,rfl⟩)
 have hne:∀ {i},¬id=i→(bS κ id (κ id) (κ.row id) S').bl i=κ.bl i:=fun hi=>(bJ (fun e=>hi e.symm)).2.2
 have hse:(bS κ id (κ id) (κ.row id) S').bl id=S':=aI
 have hoth:∀ {i:Nat} {oi:Ob} {g:Nat},¬id=i→σ.h[i]?=some (some oi)→κ.bl i g→¬S' g:=fun {i oi g} hi ho hg hs=>by
  rcases E.sub g hs with h | h
  · exact hi (H.inj id i _ oi g hid ho h hg)
  · have:=(H.blk_lt ho hg).2; omega
 refine { dfr:=H.dfr,jst:=H.jst,pin:=H.pin,size:=H.size,regs:=?_,heap:=?_,inj:=?_,snd:=E.snd,sep:=?_,sub:=⟨fun p v h=>E.mem p v (H.sub.sub p v h),fun p v h=>E.mem p v (H.sub.fmS p v h),H.sub.fmN,H.sub.fbn,H.sub.gl⟩,new:=?_,base:=H.base,blw:=H.blw.trans hu }
 · intro t v ht
   obtain ⟨h1,c,h2,h3⟩:=H.regs t v ht
   exact ⟨h1,c,h2,ax E.mem hX _ _ h3⟩
 · intro i ob h
   rw [List.getElem?_set] at h
   split at h
   · rename_i he
     subst he
     simp only [hlt,if_true,Option.some.injEq] at h
     subst h
     simp only [aK]
     rw [bf,aI]
     exact ⟨k,hk,hJ,fun g hg=>⟨(E.sub g hg).elim (fun h=>(hown g h).1) (fun h=>.inl (by rw [H.base]; have:=H.blw.size; omega)),E.lt g hg⟩⟩
   · rename_i he
     refine ej E.mem hX (bJ (fun e=>he e.symm)) (fun g hg=>E.block g (H.blk_lt h hg).2 (fun hs=>he (H.inj id i _ ob g hid h hs hg))) H.jst hu E.snd (H.heap i ob h)
 · intro i j oi oj g hi hj gi gj
   rw [List.getElem?_set] at hi hj
   split at hi<;>split at hj
   · rename_i h1 h2; rw [←h1,←h2]
   · rename_i h1 h2
     subst h1
     rw [hse] at gi
     rw [hne h2] at gj
     exact (hoth h2 hj gj gi).elim
   · rename_i h1 h2
     subst h2
     rw [hse] at gj
     rw [hne h1] at gi
     exact (hoth h1 hi gi gj).elim
   · rename_i h1 h2
     rw [hne h1] at gi
     rw [hne h2] at gj
     exact H.inj i j oi oj g hi hj gi gj
 · intro p v hp i ob' h
   rw [List.getElem?_set] at h
   split at h
   · rename_i he
     subst he
     rw [hse]
     exact E.sep p v hp
   · rename_i he
     rw [hne he]
     intro hg
     rcases E.new p v hp with h1 | h1 | h1
     · exact H.sep p v h1 i ob' h hg
     · have:=(H.blk_lt h hg).2; omega
     · exact he (H.inj id i _ ob' _ hid h h1 hg)
 · intro p v hp
   rcases E.new p v hp with h1 | h1 | h1
   · exact H.new p v h1
   · exact .inr (.inl (by rw [H.base]; have:=H.blw.size; omega))
   · exact .inr (hown _ h1).1
theorem Im (hJC:qq P M0 B) (H:Rel N M0 B w0 κ M σ a w) {g:AO} {xs:List AO} {ty:TypeId} {op:Op} (hl:LE P ty op (.yld g xs)) {d:Option Nat} (hd:∀ t,d=some t→t < N∧t ∉ B.ps) {K:St→Prop} (hW:af (Cn P) d (.yld g xs) K σ)
 {Nx:Act→World→Prop} (hK:∀ κ' M' σ' a' w',K σ'→Rel N M0 B w0 κ' M' σ' a' w'→Nx a' w') {Q:Exit→Act→World→Prop} (o:Oper) (ho:o.op=op) (hod:o.dst=d) {ρ:Option Nat}:o.wpIn (FR ρ) 0 P a w Nx Q:=by
 subst hod
 refine ⟨fun _ _=>trivial,?_⟩
 rw [Oper.semAt_eq _ _ _ (by rw [ho]; exact Ne hl)]
 unfold execOp
 cases hl with
 | @yld g args ts xs hx=>
   rw [ho]
   dsimp only
   simp only [af] at hW
   split at hW
   · rename_i id n vs hg hvs
     split at hW
     · rename_i v b l us hgh hus
       obtain ⟨rfl,hvi,hW⟩:=hW
       have hid:=GC hgh
       have hcs:=H.ops hx hvs
       simp only [St.ev] at hg
       have hrg:=H.ev hg
       simp only [rep,XX] at hrg
       have eg:=hrg.2.2.2.2 _ hid rfl
       obtain ⟨k,h1,h2,h3⟩:=H.heap id _ hid
       rw [h1] at eg
       have hpu:=bv H (fun _ _ h=>h) (fun i hi=>by rw [hvi] at hi; cases hi) hcs hus
       have hM:Snd M w:=⟨H.snd,H.sub.gl.mono H.sub.sub⟩
       have:=hJC k us b l (κ.bl id) M w (args.map a.eval) h2 hM (fun p v hp=>H.sep p v hp id _ hid) H.new (by simpa using hpu) o a Nx Q ρ (fun M' S' w' hJ E=>hK _ _ _ _ _ hW ((H.env hid h1 E hJ).put' hd (by simp [rep])))
       simpa [resolve,Deferred.ofValue,invoke,eg] using this
     · exact hW.elim
   · exact hW.elim
end
section
variable {P:Program} {N:Nat} {M0:Mem} {B:Bas} {w0:World} {κ:Kap} {M:Mem} {σ:St} {a:Act} {w w':World}
theorem Rel.mat (H:Rel N M0 B w0 κ M σ a w) {m:Mat} {σ':St} (h:σ.mat m=some σ'):∃ κ' M',Rel N M0 B w0 κ' M' σ' a w:=by
 cases m with
 | r t e sz=>
   simp only [St.mat] at h
   split at h
   · rename_i sz0 hlk
     split at h
     · rename_i hsz
       cases h
       have ho:aK (upd κ σ.h.length (.slice none 0 0)) M (XX (upd κ σ.h.length (.slice none 0 0)) (σ.h++[some (Ob.arr e sz [])])) B w σ.h.length (.arr e sz []):=by
        simp only [aK]
        exact ⟨hsz,by simp,[],by rw [bk]; exact World.ownsRow_nil w 0 e sz,by simp [al],fun g hg=>(by rw [aI] at hg; cases hg),fun g=>by rw [aI,bf]⟩
       have H':=H.newOb (Below.refl _ _) (kv:=.slice none 0 0) (fun g hg=>by cases hg) ho
       refine ⟨_,_,{ dfr:=H'.dfr,jst:=H'.jst,pin:=H'.pin,size:=H'.size,regs:=?_,heap:=H'.heap,inj:=H'.inj,snd:=H'.snd,sep:=H'.sep,sub:=H'.sub,new:=H'.new,base:=H'.base,blw:=H'.blw }⟩
       intro t' v hv
       simp only [lk] at hv
       split at hv
       · rename_i he
         subst he
         cases hv
         obtain ⟨h1,c,h2,h3⟩:=H.regs _ _ hlk
         simp only [rep] at h3
         refine ⟨h1,c,h2,?_⟩
         simp only [rep,XX]
         rw [h3.1]
         refine ⟨rfl,by simp,fun e2 sz2 l2 h2=>?_,fun e2 sz2 l2 l3 h2=>by simp at h2,fun o2 h2 hn=>by simp at h2; subst h2; cases hn⟩
         simp at h2
         obtain ⟨rfl,rfl,rfl⟩:=h2
         exact ⟨by simp,fun _=>bk.symm⟩
       · exact H'.regs t' v hv
     · cases h
   · cases h
 | b id off e sz=>
   simp only [St.mat] at h
   split at h
   · rename_i cs hcs
     split at h
     · rename_i sz0 hoff
       split at h
       · rename_i hsz
         cases h
         have ho:aK (upd κ σ.h.length (.slice none 0 0)) M (XX (upd κ σ.h.length (.slice none 0 0)) (σ.h++[some (Ob.arr e sz [])])) B w σ.h.length (.arr e sz []):=by
          simp only [aK]
          exact ⟨hsz,by simp,[],by rw [bk]; exact World.ownsRow_nil w 0 e sz,by simp [al],fun g hg=>(by rw [aI] at hg; cases hg),fun g=>by rw [aI,bf]⟩
         have H':=H.newOb (Below.refl _ _) (kv:=.slice none 0 0) (fun g hg=>by cases hg) ho
         have hb:=lK hcs
         have hlt:id < σ.h.length:=(List.getElem?_eq_some_iff.1 hb).1
         have hb':(σ.h++[some (Ob.arr e sz [])])[id]?=some (some (.box cs)):=by rw [List.getElem?_append_left hlt]; exact hb
         obtain ⟨b,arr,T,h1,h2,h3,h4,h5,h6⟩:=H'.heap id _ hb'
         let κ1:=upd κ σ.h.length (.slice none 0 0)
         have hX:∀ u c,XX κ1 (σ.h++[some (Ob.arr e sz [])]) u c→XX (upd κ1 id (κ1 id)) ((σ.h++[some (Ob.arr e sz [])]).set id (some (Ob.box (cs.set off (.ref σ.h.length 0))))) u c:=fun u c hx=>ke hb' hx (fun _ _=>⟨⟨cs,rfl⟩,rfl⟩) (fun _ _ _ h=>by cases h) (fun _ _ _ _ h=>by cases h)
         have H2:=H'.setOb hb' (ob:=.box (cs.set off (.ref σ.h.length 0))) (kv:=κ1 id) (Und.refl _ _) (fun _ _ _=>rfl) (fun g hg=>.inl ((h6 g).2 (by rw [h1] at hg; cases hg; rfl))) hX (by
          simp only [aK]
          refine ⟨b,arr,T,by rw [bk]; exact h1,h2,h3,?_,h5,fun g=>by rw [aI,h1]; simp only [blk,Option.some.injEq]; exact eq_comm⟩
          obtain ⟨c,g1,g2⟩:=dr (aR (fun _ _ h=>h) hX _ _ h4) hoff
          simp only [rep] at g2
          have hs:=wx off (aR (fun _ _ h=>h) hX _ _ h4) (v:=.ref σ.h.length 0) (c:=c) (by
           simp only [rep,XX]
           rw [g2.1]
           refine ⟨rfl,by simp,fun e2 sz2 l2 h2=>?_,fun e2 sz2 l2 l3 h2=>by rw [List.getElem?_set_ne (by omega)] at h2; simp at h2,fun o2 h2 hn=>by rw [List.getElem?_set_ne (by omega)] at h2; simp at h2; subst h2; cases hn⟩
           rw [List.getElem?_set_ne (by omega)] at h2
           simp at h2
           obtain ⟨rfl,rfl,rfl⟩:=h2
           refine ⟨by simp,fun _=>?_⟩
           rw [KQ (by omega)]
           exact bk.symm)
          have:arr.toList.set off c=arr.toList:=by
           apply List.ext_getElem?
           intro j
           rw [List.getElem?_set]
           split
           · rename_i he; subst he
             split
             · exact g1.symm
             · rename_i hn; rw [List.getElem?_eq_none (by omega)]
           · rfl
          rwa [this] at hs)
         refine ⟨upd κ1 id (κ1 id),M,?_⟩
         have e1:(σ.h++[some (Ob.arr e sz [])]).set id (some (Ob.box (cs.set off (.ref σ.h.length 0))))=σ.h.set id (some (Ob.box (cs.set off (.ref σ.h.length 0))))++[some (Ob.arr e sz [])]:=by
          rw [List.set_append_left _ _ hlt]
         rw [←e1]
         exact H2
       · cases h
     · cases h
   · cases h
 | z t=>
   simp only [St.mat] at h
   split at h
   · rename_i v hv
     split at h
     · rename_i u hu
       cases h
       obtain ⟨H2,hM1⟩:=H.kill (aq v) (F3 hu)
       obtain ⟨h1,c,h2,h3⟩:=H.regs t v hv
       have k3:rep (ext M w (lL κ (aq v))) NX u c:=by
        refine oO H hM1 (fun id hid g hg p hpb=>?_) h3 hu
        unfold ext
        rw [if_pos (cZ.2 ⟨id,hid,by rw [hpb]; exact hg⟩)]
       refine ⟨κ,_,{ dfr:=H2.dfr,jst:=H2.jst,pin:=H2.pin,size:=H2.size,regs:=?_,heap:=H2.heap,inj:=H2.inj,snd:=H2.snd,sep:=H2.sep,sub:=H2.sub,new:=H2.new,base:=H2.base,blw:=H2.blw }⟩
       intro t' v' hv'
       simp only [lk] at hv'
       split at hv'
       · rename_i he
         subst he
         cases hv'
         exact ⟨h1,c,h2,aA k3⟩
       · exact H2.regs t' v' (by rw [(qN _ _).1]; exact hv')
     · cases h
   · cases h
theorem Rel.mats:∀ {ms:List Mat} {σ σ':St} {κ:Kap} {M:Mem},Rel N M0 B w0 κ M σ a w→σ.mats ms=some σ'→∃ κ' M',Rel N M0 B w0 κ' M' σ' a w
 | [],σ,σ',κ,M,H,h=>by simp only [St.mats] at h; cases h; exact ⟨κ,M,H⟩
 | m::ms,σ,σ',κ,M,H,h=>by
   simp only [St.mats] at h
   split at h
   · rename_i σ1 h1
     obtain ⟨κ1,M1,H1⟩:=H.mat h1
     exact Rel.mats H1 h
   · cases h
theorem Rel.nrm (H:Rel N M0 B w0 κ M σ a w) (ks:List Nat):∃ κ',Rel N M0 B w0 κ' M (σ.nrm ks) a w:=by
 unfold St.nrm
 exact ⟨_,H.ren (ce _ _ (ce _ _ (ce _ _ List.nodup_nil))) _ (fun t v h=>HQ h)⟩
structure LO (P:Program) (N:Nat) (ps:List Nat) (ops:Array Oper) (o:Oper) (x:AOp):Prop where
 dst:x.d=o.dst
 lt:∀ t,o.dst=some t→t < N∧t ∉ ps
 act:LV P o.type o.op x.a∨LE P o.type o.op x.a∨x.a=.bad
 grd:(o.guard=none∧x.g=none)∨∃ j b oj t,o.guard=some (j,b)∧ops[j]?=some oj∧oj.dst=some t∧x.g=some (t,b)
theorem Sz {ty:TypeId} {op:Op} {act:Act'} (h:LV P ty op act) (Φ:Ctr) (d:Option Nat) (K:St→Prop) (σ:St):af Φ d act K σ=match σ.val act with
 | some v=>K (σ.put d v)
 | none=>False:=by cases h<;>rfl
theorem uf (hJC:qq P M0 B) {ρ:Option Nat} (H:Rel N M0 B w0 κ M σ a w) {ops:Array Oper} {o:Oper} {x:AOp} (hl:LO P N B.ps ops o x) {K:St→Prop} (hW:af (Cn P) x.d x.a K σ)
 {Nx:Act→World→Prop} (hK:∀ κ' M' σ' a' w',K σ'→Rel N M0 B w0 κ' M' σ' a' w'→Nx a' w') {Q:Exit→Act→World→Prop}:o.wpIn (FR ρ) 0 P a w Nx Q:=by
 have hd:∀ t,x.d=some t→t < N∧t ∉ B.ps:=by rw [hl.dst]; exact hl.lt
 rcases hl.act with h | h | h
 · rw [Sz h] at hW
   split at hW
   · rename_i v hv
     obtain ⟨c,hr,hc⟩:=Iy H h hv o rfl rfl
     refine Hs ?_ (SC h)
     unfold Oper.wp
     rw [hr,Oper.upon_value,←hl.dst]
     exact hK _ _ _ _ _ hW (H.put' hd hc)
   · exact hW.elim
 · by_cases hy:∃ g xs,x.a=.yld g xs
   · obtain ⟨g,xs,hy⟩:=hy
     rw [hy] at h hW
     exact Im hJC H h hd hW hK o rfl hl.dst.symm
   · exact Hs (JR hJC H h (fun g xs e=>hy ⟨g,xs,e⟩) hd hW hK o rfl rfl hl.dst.symm) (Ne h)
 · rw [h] at hW
   simp only [af,St.val] at hW
theorem D1 (hJC:qq P M0 B) {ρ:Option Nat} (H:Rel N M0 B w0 κ M σ a w) {ops:Array Oper} {o:Oper} {x:AOp} (hl:LO P N B.ps ops o x) {K:St→Prop} (hW:wop (Cn P) x K σ)
 {Nx:Act→World→Prop} (hK:∀ κ' M' σ' a' w',K σ'→Rel N M0 B w0 κ' M' σ' a' w'→Nx a' w') {Q:Exit→Act→World→Prop}:
 if Region.wanted o (yielded ops a.tmps) then o.wpIn (FR ρ) 0 P a w Nx Q else Nx (a.put o.dst undef) w:=by
 have hd:∀ t,x.d=some t→t < N∧t ∉ B.ps:=by rw [hl.dst]; exact hl.lt
 have hu:K (σ.put x.d (.tup []))→Nx (a.put o.dst undef) w:=fun h=>by
  rw [←hl.dst]
  exact hK _ _ _ _ _ h (H.undef hd)
 unfold wop at hW
 rcases hl.grd with ⟨h1,h2⟩ | ⟨j,b,oj,t,h1,h2,h3,h4⟩
 · rw [h2] at hW
   have:Region.wanted o (yielded ops a.tmps)=true:=by simp [Region.wanted,h1]
   rw [if_pos this]
   exact uf hJC H hl hW hK
 · rw [h4] at hW
   simp only at hW
   split at hW
   · rename_i y hy
     obtain ⟨_,c,g1,g2⟩:=H.regs t _ hy
     have hc:=f6 g2
     subst hc
     have hyl:yielded ops a.tmps j=some y:=by simp [yielded,h2,h3,g1]
     have hw:Region.wanted o (yielded ops a.tmps)=decide (y=b):=by
      cases y<;>cases b<;>simp [Region.wanted,h1,hyl]
     rw [hw]
     cases y<;>cases b<;>simp [Br] at hW ⊢
     · exact uf hJC H hl hW hK
     · exact hu hW
     · exact hu hW
     · exact uf hJC H hl hW hK
   · rename_i hy
     obtain ⟨_,c,g1,g2⟩:=H.regs t _ hy
     simp only [rep,aa] at g2
     obtain ⟨arr,rfl,g3⟩:=g2
     have hyl:yielded ops a.tmps j=none:=by simp [yielded,h2,h3,g1]
     have hw:¬Region.wanted o (yielded ops a.tmps)=true:=by simp [Region.wanted,h1,hyl]
     rw [if_neg hw]
     exact hu hW
   · exact hW.elim
inductive LOs (P:Program) (N:Nat) (ps:List Nat) (ops:Array Oper):List Oper→List AOp→Prop
 | nil:LOs P N ps ops [] []
 | cons {o os x xs}:LO P N ps ops o x→LOs P N ps ops os xs→LOs P N ps ops (o::os) (x::xs)
theorem AJ (hJC:qq P M0 B) {ρ:Option Nat} {ops:Array Oper} {Q:Exit→Act→World→Prop} {K:St→Prop} (hK:∀ κ' M' σ' a' w',K σ'→Rel N M0 B w0 κ' M' σ' a' w'→Q .normal a' w'):
 ∀ {os:List Oper} {xs:List AOp},LOs P N B.ps ops os xs→∀ {κ:Kap} {M:Mem} {σ:St} {a:Act} {w:World},Rel N M0 B w0 κ M σ a w→s7 (Cn P) xs K σ→wpListIn (FR ρ) 0 P ops Q os a w
 | _,_,.nil,_,_,_,_,_,H,hW=>hK _ _ _ _ _ hW H
 | _,_,.cons hl hs,_,_,_,_,_,H,hW=>by
   refine wpListIn_step fun K' hK'=>?_
   have:=D1 hJC (ρ:=ρ) H hl hW (Q:=Q) (fun κ' M' σ' a' w' hk H'=>hK' _ _ (AJ hJC hK hs H' hk))
   split
   · rename_i hw; rw [if_pos hw] at this; exact this
   · rename_i hw; rw [if_neg hw] at this; exact ⟨fun _ _=>trivial,this⟩
end
end Go.Abs
end
section
namespace Go.Abs
def AO.rd:AO→List Nat
 | .t n=>[n]
 | .v _=>[]
def rdo:Option AO→List Nat
 | none=>[]
 | some x=>x.rd
def rdl:List AO→List Nat
 | []=>[]
 | x::xs=>x.rd++rdl xs
def rdp:List (Nat × Nat × AO)→List Nat
 | []=>[]
 | (_,_,x)::ps=>x.rd++rdp ps
def Act'.rds:Act'→List Nat
 | .mov x=>x.rd
 | .pick c a b=>c.rd++(a.rd++b.rd)
 | .fld x _ _ _=>x.rd
 | .fa x _=>x.rd
 | .ia x i _=>x.rd++i.rd
 | .iaa x i _ _=>x.rd++i.rd
 | .ld x _ _=>x.rd
 | .ixs x i=>x.rd++i.rd
 | .ixa x i _ _ _=>x.rd++i.rd
 | .bin _ x y=>x.rd++y.rd
 | .un _ x=>x.rd
 | .cii _ x=>x.rd
 | .r2s x=>x.rd
 | .s2b x=>x.rd
 | .b2s x=>x.rd
 | .sls x lo hi=>x.rd++(rdo lo++rdo hi)
 | .slq x lo hi _=>x.rd++(rdo lo++rdo hi)
 | .lens x=>x.rd
 | .lenq x=>x.rd
 | .beq _ x y=>x.rd++y.rd
 | .ext x _=>x.rd
 | .bld _ ps=>rdp ps
 | .lit _ _ xs=>rdl xs
 | .ltr _ _ xs=>rdl xs
 | .mkf _ a b=>rdl a++rdl b
 | .nlc x=>x.rd
 | .alc _=>[]
 | .box x=>x.rd
 | .st _ a x=>a.rd++x.rd
 | .app x y _ _ _=>x.rd++y.rd
 | .mks _ _ _ _ n=>n.rd
 | .mkm _ _ _ _ n=>n.rd
 | .mk0 _ _ _ n=>n.rd
 | .call _ xs=>rdl xs
 | .callv g xs=>g.rd++rdl xs
 | .callH _ xs=>rdl xs
 | .mki _ x=>x.rd
 | .aeq _ _ x y=>x.rd++y.rd
 | .mkp _=>[]
 | .lkp _ _ _ x k=>x.rd++k.rd
 | .mup _ x k v=>x.rd++(k.rd++v.rd)
 | .inv _ x xs=>x.rd++rdl xs
 | .mm _ x y=>x.rd++y.rd
 | .trc x hi _=>x.rd++hi.rd
 | .nlq _ _ x=>x.rd
 | .yld g xs=>g.rd++rdl xs
 | .rgs x=>x.rd
 | .nxs x=>x.rd
 | .bad=>[]
def lM:AO→Nat
 | .v (.nil _)=>2
 | _=>3
theorem Hn (x:AO):2≤lM x:=by unfold lM; split<;>decide
def Act'.kind:Act'→Nat
 | .fa _ _=>1
 | .ia _ _ _=>1
 | .iaa _ _ _ _=>1
 | .ld _ _ _=>1
 | .b2s _=>1
 | .lenq _=>1
 | .nlc _=>1
 | .call _ _=>1
 | .callv _ _=>1
 | .alc _=>2
 | .box _=>2
 | .mks _ _ _ _ _=>2
 | .mkm _ _ _ _ _=>2
 | .mk0 _ _ _ _=>2
 | .st _ _ _=>3
 | .callH _ _=>3
 | .lkp _ _ _ _ _=>1
 | .mkp _=>2
 | .mup _ _ _ _=>3
 | .inv _ _ _=>3
 | .trc _ _ _=>3
 | .ltr _ _ _=>3
 | .yld _ _=>3
 | .rgs _=>2
 | .nxs _=>3
 | .nlq _ _ _=>1
 | .app x _ _ _ _=>lM x
 | _=>0
def AOp.rds (o:AOp):List Nat:=o.a.rds++(match o.g with
 | none=>[]
 | some (t,_)=>[t])
def Agr (σ σ':St) (rs:List Nat):Prop:=∀ t,t∈rs→lk σ'.r t=lk σ.r t
def Ext (σ σ':St):Prop:=∀ (id:Nat) (ob:Ob),σ.h[id]?=some (some ob)→σ'.h[id]?=some (some ob)
section
variable {σ σ':St}
theorem Agr.sub {rs ss:List Nat} (h:Agr σ σ' rs) (hs:∀ t,t∈ss→t∈rs):Agr σ σ' ss:=fun t ht=>h t (hs t ht)
theorem Agr.l {rs ss:List Nat} (h:Agr σ σ' (rs++ss)):Agr σ σ' rs:=h.sub fun t ht=>List.mem_append_left _ ht
theorem Agr.r {rs ss:List Nat} (h:Agr σ σ' (rs++ss)):Agr σ σ' ss:=h.sub fun t ht=>List.mem_append_right _ ht
theorem Agr.ev {x:AO} (h:Agr σ σ' x.rd):σ'.ev x=σ.ev x:=by
 cases x with
 | t n=>exact h n (by simp [AO.rd])
 | v x=>rfl
theorem Agr.evo {d:V} {x:Option AO} (h:Agr σ σ' (rdo x)):σ'.evo d x=σ.evo d x:=by
 cases x with
 | none=>rfl
 | some x=>exact Agr.ev (x:=x) h
theorem Agr.evs:∀ {xs:List AO},Agr σ σ' (rdl xs)→σ'.evs xs=σ.evs xs
 | [],_=>rfl
 | x::xs,h=>by simp only [St.evs,Agr.ev (Agr.l h),Agr.evs (Agr.r h)]
theorem Agr.bldV:∀ {ps:List (Nat × Nat × AO)} {cs:List V},Agr σ σ' (rdp ps)→bldV σ' cs ps=bldV σ cs ps
 | [],_,_=>rfl
 | (off,n,x)::ps,cs,h=>by
   simp only [Abs.bldV,Agr.ev (Agr.l h)]
   cases σ.ev x with
   | none=>rfl
   | some v=>
     simp only
     split
     · cases eA cs off (cl v) with
       | none=>rfl
       | some cs'=>exact Agr.bldV (Agr.r h)
     · rfl
theorem Ext.box (h:Ext σ σ') {id cs} (hb:σ.box? id=some cs):σ'.box? id=some cs:=by
 simp only [St.box?,h _ _ (lK hb)]
theorem Ext.arr (h:Ext σ σ') {id x} (hb:σ.arr? id=some x):σ'.arr? id=some x:=by
 simp only [St.arr?,h _ _ (dI hb)]
theorem Ext.mat (h:Ext σ σ') {id x} (hb:σ.rws? id=some x):σ'.rws? id=some x∧σ'.arr? id=none:=by
 constructor
 · simp only [St.rws?,h _ _ (d2 hb)]
 · simp only [St.arr?,h _ _ (d2 hb)]
theorem Ext.mp (h:Ext σ σ') {id x} (hb:σ.mp? id=some x):σ'.mp? id=some x:=by
 simp only [St.mp?,h _ _ (Cd hb)]
theorem Ext.live (h:Ext σ σ') {v:V} (hv:σ.live v=true):σ'.live v=true:=by
 cases v<;>simp only [St.live] at hv ⊢<;>try assumption
 case ptr id off=>
  obtain ⟨cs,hc⟩:=Option.isSome_iff_exists.1 hv
  rw [h.box hc]; rfl
 case eptr id n i off=>
  split at hv
  · rename_i e sz l hl
    rw [h.arr hl]; exact hv
  · cases hv
 case mptr id i n k off=>
  split at hv
  · rename_i e e2 sz l hl
    rw [(h.mat hl).1]; exact hv
  · cases hv
 case fn f a b=>cases f<;>exact hv
theorem Ext.fetch (h:Ext σ σ') {p:V} {n:Nat} {us:List V} (hv:σ.fetch p n=some us):σ'.fetch p n=some us:=by
 cases p<;>simp only [St.fetch] at hv ⊢<;>try assumption
 case ptr id off=>
  split at hv
  · rename_i cs hc; rw [h.box hc]; exact hv
  · cases hv
 case eptr id m i off=>
  split at hv
  · rename_i e sz l hl; rw [h.arr hl]; exact hv
  · split at hv
    · rename_i e e2 sz l hl; simp only [(h.mat hl).1,(h.mat hl).2]; exact hv
    · cases hv
 case mptr id i n k off=>
  split at hv
  · rename_i e e2 sz l hl
    rw [(h.mat hl).1]; exact hv
  · cases hv
theorem Ext.pur1 (h:Ext σ σ') {id n:Nat} {u:V} (hv:pur1 σ.h id n=some u):pur1 σ'.h id n=some u:=by
 unfold Abs.pur1 at hv ⊢
 split at hv
 · rename_i hb; rw [h _ _ hb]; exact hv
 · rename_i hb; rw [h _ _ hb]; exact hv
 · cases hv
theorem Ext.pur2 (h:Ext σ σ') {id i n:Nat} {u:V} (hv:pur2 σ.h id i n=some u):pur2 σ'.h id i n=some u:=by
 unfold Abs.pur2 at hv ⊢
 split at hv
 · rename_i hb; rw [h _ _ hb]; exact hv
 · cases hv
mutual
theorem Ext.pur (h:Ext σ σ'):∀ {v u:V},pur σ.h v=some u→pur σ'.h v=some u
 | .nil sz,_,hv=>by simp only [Abs.pur] at hv ⊢; exact hv
 | .ref id n,_,hv=>by simp only [Abs.pur] at hv ⊢; exact h.pur1 hv
 | .mref id i n,_,hv=>by simp only [Abs.pur] at hv ⊢; exact h.pur2 hv
 | .fseq _ _,_,hv=>by simp only [Abs.pur] at hv ⊢; exact hv
 | .mptr _ _ _ _ _,_,hv=>by simp only [Abs.pur] at hv; cases hv
 | .strct cs,_,hv=>by
   simp only [Abs.pur,Option.map_eq_some_iff] at hv ⊢
   obtain ⟨us,h1,h2⟩:=hv
   exact ⟨us,Ext.purs h h1,h2⟩
 | .tup cs,_,hv=>by
   simp only [Abs.pur,Option.map_eq_some_iff] at hv ⊢
   obtain ⟨us,h1,h2⟩:=hv
   exact ⟨us,Ext.purs h h1,h2⟩
 | .fn f a b,_,hv=>by
   simp only [Abs.pur] at hv ⊢
   split at hv
   · rename_i a' b' h1 h2; rw [Ext.purs h h1,Ext.purs h h2]; exact hv
   · cases hv
 | .iface t x,_,hv=>by
   simp only [Abs.pur,Option.map_eq_some_iff] at hv ⊢
   obtain ⟨us,h1,h2⟩:=hv
   exact ⟨us,Ext.pur h h1,h2⟩
 | .ptr _ _,_,hv=>by simp only [Abs.pur] at hv; cases hv
 | .eptr _ _ _ _,_,hv=>by simp only [Abs.pur] at hv; cases hv
 | .int _ _,_,hv=>by simp only [Abs.pur] at hv ⊢; exact hv
 | .bool _,_,hv=>by simp only [Abs.pur] at hv ⊢; exact hv
 | .str _,_,hv=>by simp only [Abs.pur] at hv ⊢; exact hv
 | .seq _ _,_,hv=>by simp only [Abs.pur] at hv ⊢; exact hv
 | .sptr _ _,_,hv=>by simp only [Abs.pur] at hv ⊢; exact hv
 | .nilptr,_,hv=>by simp only [Abs.pur] at hv ⊢; exact hv
 | .nilfn,_,hv=>by simp only [Abs.pur] at hv ⊢; exact hv
 | .niliface,_,hv=>by simp only [Abs.pur] at hv ⊢; exact hv
 | .junk,_,hv=>by simp only [Abs.pur] at hv ⊢; exact hv
theorem Ext.purs (h:Ext σ σ'):∀ {v u:List V},purs σ.h v=some u→purs σ'.h v=some u
 | [],_,hv=>by simp only [Abs.purs] at hv ⊢; exact hv
 | v::vs,_,hv=>by
   simp only [Abs.purs] at hv ⊢
   split at hv
   · rename_i a' b' h1 h2; rw [Ext.pur h h1,Ext.purs h h2]; exact hv
   · cases hv
end
theorem Ol {a:Act'} (hk:a.kind=0) (h:Agr σ σ' a.rds):σ'.val a=σ.val a:=by
 cases a<;>simp only [Act'.kind] at hk<;>first | exact absurd hk (by decide) | skip
 all_goals simp only [Act'.rds] at h
 all_goals simp only [St.val]
 case mov x=>exact h.ev
 case pick c a b=>rw [h.l.ev,h.r.l.ev,h.r.r.ev]
 case fld=>rw [h.ev]
 case ixs=>rw [h.l.ev,h.r.ev]
 case ixa=>rw [h.l.ev,h.r.ev]
 case bin=>rw [h.l.ev,h.r.ev]
 case un=>rw [h.ev]
 case cii=>rw [h.ev]
 case r2s=>rw [h.ev]
 case sls=>simp only [h.l.ev,h.r.l.evo,h.r.r.evo]
 case slq=>simp only [h.l.ev,h.r.l.evo,h.r.r.evo]
 case lens=>rw [h.ev]
 case beq=>rw [h.l.ev,h.r.ev]
 case ext=>rw [h.ev]
 case bld=>rw [h.bldV]
 case mkf=>rw [h.l.evs,h.r.evs]
 case mki=>rw [h.ev]
 case aeq=>rw [h.l.ev,h.r.ev]
 case mm=>rw [h.l.ev,h.r.ev]
theorem Ext.isNil (h:Ext σ σ') {k:Nat} {v:V} {b:Bool} (hb:St.isNil k (σ.live v) v=some b):St.isNil k (σ'.live v) v=some b:=by
 cases hl:σ.live v with
 | true=>rw [h.live hl]; rw [hl] at hb; exact hb
 | false=>
   rw [hl] at hb
   cases v<;>simp [St.isNil] at hb ⊢<;>exact hb
theorem Iz {a:Act'} (hk:a.kind=1) (h:Agr σ σ' a.rds) (hx:Ext σ σ') {v:V} (hv:σ.val a=some v):σ'.val a=some v:=by
 cases a<;>simp only [Act'.kind] at hk<;>first | exact absurd hk (by decide) | skip
 all_goals simp only [Act'.rds] at h
 all_goals simp only [St.val] at hv ⊢
 case call=>cases hv
 case callv=>cases hv
 case app=>cases hv
 case fa x off=>
  rw [h.ev]
  split at hv
  · rename_i u hu
    split at hv
    · rename_i hl; rw [if_pos (hx.live hl)]; exact hv
    · cases hv
  · cases hv
 case ia x i sz=>
  rw [h.l.ev,h.r.ev]
  split at hv
  · exact hv
  · exact hv
  · rename_i id m k n h1 h2
    split at hv
    · rename_i e sz' l hl; rw [hx.arr hl]; exact hv
    · split at hv
      · rename_i e e2 sz l hl; simp only [(hx.mat hl).1,(hx.mat hl).2]; exact hv
      · cases hv
  · split at hv
    · rename_i e e2 sz l hl; rw [(hx.mat hl).1]; exact hv
    · cases hv
  · cases hv
 case iaa x i len sz=>
  rw [h.l.ev,h.r.ev]
  split at hv
  · rename_i u k n h1 h2
    split at hv
    · rename_i hl; rw [if_pos ⟨hx.live hl.1,hl.2⟩]; exact hv
    · cases hv
  · cases hv
 case ld x n agg=>
  rw [h.ev]
  split at hv
  · rename_i p hp
    split at hv
    · rename_i us hus; simp only [hx.fetch hus]; exact hv
    · cases hv
  · cases hv
 case b2s x=>
  rw [h.ev]
  split at hv
  · rename_i u hu
    split at hv
    · rename_i l hl; simp only [hx.pur hl]; exact hv
    · cases hv
  · cases hv
 case lenq x=>
  rw [h.ev]
  split at hv
  · exact hv
  · exact hv
  · exact hv
  · rename_i id n hu
    split at hv
    · rename_i e sz l hl; simp only [hx.arr hl]; exact hv
    · split at hv
      · rename_i e e2 sz l hl; simp only [(hx.mat hl).1,(hx.mat hl).2]; exact hv
      · cases hv
  · split at hv
    · rename_i e e2 sz l hl; simp only [(hx.mat hl).1]; exact hv
    · cases hv
  · cases hv
 case nlc x=>
  rw [h.ev]
  split at hv
  · rename_i u hu
    split at hv
    · rename_i hl; rw [if_pos (hx.live hl)]; exact hv
    · cases hv
  · cases hv
 case nlq k neg x=>
  rw [h.ev]
  split at hv
  · rename_i u hu
    split at hv
    · rename_i b hb; simp only [hx.isNil hb]; exact hv
    · cases hv
  · cases hv
 case lkp kt z okk x k=>
  rw [h.l.ev,h.r.ev]
  split at hv
  · rename_i id n kv h1 h2
    split at hv
    · rename_i kt' l hm
      simp only [hx.mp hm]
      exact hv
    · cases hv
  · cases hv
def SH (k:Nat) (σ σ':St):Prop:=k=0∨(k=1∧Ext σ σ')∨σ'.h=σ.h
def post (k:Nat) (σ':St) (h':List (Option Ob)) (d:Option Nat) (v:V):St:=St.put { σ' with h:=if k≤1 then σ'.h else h' } d v
def Fs (T:(St→Prop)→St→Prop) (k:Nat) (rs:List Nat) (d:Option Nat) (σ:St) (K:St→Prop):Prop:=
 ∃ h' v,(k≤1→h'=σ.h)∧(k=2→∀ (id:Nat) (ob:Ob),σ.h[id]?=some (some ob)→h'[id]?=some (some ob))∧K (St.put { σ with h:=h' } d v)∧
   ∀ (σ':St) (K':St→Prop),Agr σ σ' rs→SH k σ σ'→K' (post k σ' h' d v)→T K' σ'
theorem SH.ext {k:Nat} (h:SH k σ σ') (hk:k=1):Ext σ σ':=by
 rcases h with h | h | h
 · omega
 · exact h.2
 · intro i ob h'; rw [h]; exact h'
theorem SH.heq {k:Nat} (h:SH k σ σ') (hk:2≤k):σ'.h=σ.h:=by
 rcases h with h | h | h
 · omega
 · omega
 · exact h
variable {Φ:Ctr} {d:Option Nat} {K:St→Prop}
theorem Iw {a:Act'} {v:V} (h:σ.val a=some v) (hK:K (σ.put d v)) (hk:a.kind≤1):ag Φ d a K σ:=by
 cases a<;>simp only [ag,af]<;>simp only [Act'.kind] at hk<;>first | (simp only [h]; exact hK) | (exfalso; revert hk; decide) | (simp [St.val] at h)
theorem MA {a:Act'} (hk:a.kind≤1) {v:V} (h:σ.val a=some v) (hK:K (σ.put d v)):Fs (ag Φ d a) a.kind a.rds d σ K:=by
 refine ⟨σ.h,v,fun _=>rfl,fun _ _ _ h=>h,hK,fun σ' K' ha hf hK'=>?_⟩
 simp only [post,if_pos hk] at hK'
 refine Iw (v:=v) ?_ hK' hk
 rcases Nat.le_one_iff_eq_zero_or_eq_one.1 hk with h0 | h1
 · rw [Ol h0 ha]; exact h
 · exact Iz h1 ha (hf.ext h1) h
theorem bP {α:Type} {l:List α} {x y:α} {i:Nat} (h:l[i]?=some x):(l++[y])[i]?=some x:=by
 rw [List.getElem?_append_left (List.getElem?_eq_some_iff.1 h).1]; exact h
theorem L2 (r:List (Nat × V)):∀ (ids:List Nat) (σ:St),({ σ with r:=r }:St).kill ids={ (σ.kill ids) with r:=r }
 | [],σ=>rfl
 | id::ids,σ=>by simp only [St.kill]; exact L2 r ids { σ with h:=σ.h.set id none }
theorem Ot (r:List (Nat × V)) (σ:St) (n id m i off:Nat) (us:List V):({ σ with r:=r }:St).storM n id m i off us=(σ.storM n id m i off us).map fun τ=>{ τ with r:=r }:=by
 have e1:∀ id,St.arr? { σ with r:=r } id=σ.arr? id:=fun _=>rfl
 have e2:∀ id,St.rws? { σ with r:=r } id=σ.rws? id:=fun _=>rfl
 unfold St.storM
 split
 · simp only [e1,e2]
   split
   · split
     · split<;>rfl
     · rfl
   · rfl
 · rfl
theorem K1 (r:List (Nat × V)) (σ:St) (n:Nat) (p:V) (us:List V):({ σ with r:=r }:St).stor n p us=(σ.stor n p us).map fun τ=>{ τ with r:=r }:=by
 have e1:∀ (τ:St) id,St.arr? { τ with r:=r } id=τ.arr? id:=fun _ _=>rfl
 have e2:∀ (τ:St) id,St.rws? { τ with r:=r } id=τ.rws? id:=fun _ _=>rfl
 have e3:∀ (τ:St) id,St.box? { τ with r:=r } id=τ.box? id:=fun _ _=>rfl
 cases p<;>simp only [St.stor,L2,e1,e2,e3,Ot]<;>try rfl
 · split
   · split
     · split<;>rfl
     · rfl
   · rfl
 · split
   · split
     · split
       · split
         · split
           · split<;>rfl
           · rfl
         · rfl
       · rfl
     · rfl
   · rfl
 · split
   · split
     · split
       · split
         · split
           · split
             · split<;>rfl
             · rfl
           · rfl
         · rfl
       · rfl
     · rfl
   · rfl
theorem Oq (σ:St) (n:Nat) (p:V) (us:List V) {τ:St} (h:σ.stor n p us=some τ):τ.r=σ.r:=by
 have h1:=K1 σ.r σ n p us
 have h2:({ σ with r:=σ.r }:St)=σ:=rfl
 rw [h2,h] at h1
 simp only [Option.map_some,Option.some.injEq] at h1
 rw [h1]
theorem aX {σ σ':St} (he:σ'.h=σ.h) (v:V):σ'.cur0 v=σ.cur0 v:=by
 cases v<;>simp only [St.cur0,St.box?,St.arr?,St.gh?,he]
mutual
theorem t8 {σ σ':St} (he:σ'.h=σ.h):∀ v:V,σ'.cur v=σ.cur v
 | .fn _ a b=>by simp only [St.cur,jh he a,jh he b]
 | .strct a=>by simp only [St.cur,jh he a]
 | .tup a=>by simp only [St.cur,jh he a]
 | .iface _ x=>by simp only [St.cur,t8 he x]
 | .int _ _=>by simp only [St.cur,aX he]
 | .bool _=>by simp only [St.cur,aX he]
 | .str _=>by simp only [St.cur,aX he]
 | .nil _=>by simp only [St.cur,aX he]
 | .seq _ _=>by simp only [St.cur,aX he]
 | .fseq _ _=>by simp only [St.cur,aX he]
 | .sptr _ _=>by simp only [St.cur,aX he]
 | .nilptr=>by simp only [St.cur,aX he]
 | .nilfn=>by simp only [St.cur,aX he]
 | .niliface=>by simp only [St.cur,aX he]
 | .junk=>by simp only [St.cur,aX he]
 | .mref _ _ _=>by simp only [St.cur,aX he]
 | .mptr _ _ _ _ _=>by simp only [St.cur,aX he]
 | .ref _ _=>by simp only [St.cur,aX he]
 | .ptr _ _=>by simp only [St.cur,aX he]
 | .eptr _ _ _ _=>by simp only [St.cur,aX he]
theorem jh {σ σ':St} (he:σ'.h=σ.h):∀ v:List V,σ'.curA v=σ.curA v
 | []=>rfl
 | v::vs=>by simp only [St.curA,t8 he v,jh he vs]
end
theorem x0 {σ σ':St} (he:σ'.h=σ.h):∀ l:List V,σ'.curs l=σ.curs l
 | []=>rfl
 | v::l=>by simp only [St.curs,t8 he,x0 he l]
theorem xa:∀ (l:List Nat) {σ σ':St},σ'.h=σ.h→(σ'.kill l).h=(σ.kill l).h
 | [],_,_,he=>he
 | id::l,σ,σ',he=>by
   simp only [St.kill]
   exact xa l (by simp only [he])
theorem Hj {σ σ':St} (he:σ'.h=σ.h) {q:Nat} {m:List Nat} {H':List (Option Ob)}:σ'.back q m H'=σ.back q m H':=by
 simp only [St.back,xa m he,he]
theorem uK:∀ (ids:List Nat) {σ σ':St},σ'.h=σ.h→(σ'.kill ids).h=(σ.kill ids).h
 | [],_,_,he=>he
 | id::ids,σ,σ',he=>by
   simp only [St.kill]
   exact uK ids (by simp only [he])
theorem we {a:Act'} (h:ag Φ d a K σ):Fs (ag Φ d a) a.kind a.rds d σ K:=by
 cases a with
 | lit e0 sz xs=>
   simp only [ag] at h
   split at h
   · rename_i vs hvs
     split at h
     · rename_i us hus
       refine ⟨σ.h,.seq sz us,fun _=>rfl,fun _ _ _ h=>h,h.2.2,fun σ' K' ha hf hK'=>?_⟩
       simp only [Act'.rds] at ha
       simp only [ag,ha.evs,hvs,hus]
       exact ⟨h.1,h.2.1,hK'⟩
     · exact h.elim
   · exact h.elim
 | call f xs=>
   simp only [ag] at h
   split at h
   · rename_i vs hvs
     split at h
     · rename_i us hus
       obtain ⟨r,h1,h3⟩:=h
       refine ⟨σ.h,r,fun _=>rfl,fun _ _ _ h=>h,h3,fun σ' K' ha hf hK'=>?_⟩
       simp only [Act'.rds] at ha
       simp only [ag,ha.evs,hvs,(hf.ext rfl).purs hus]
       exact Exists.intro r ⟨h1,hK'⟩
     · exact h.elim
   · exact h.elim
 | callv g xs=>
   simp only [ag] at h
   split at h
   · rename_i f a b vs hg hvs
     split at h
     · rename_i us hus
       obtain ⟨r,h1,h3⟩:=h
       refine ⟨σ.h,r,fun _=>rfl,fun _ _ _ h=>h,h3,fun σ' K' ha hf hK'=>?_⟩
       simp only [Act'.rds] at ha
       simp only [ag,ha.l.ev,hg,ha.r.evs,hvs,(hf.ext rfl).purs hus]
       exact Exists.intro r ⟨h1,hK'⟩
     · exact h.elim
   · exact h.elim
 | alc z=>
   simp only [ag,af] at h
   refine ⟨_,_,fun h=>absurd h (by simp [Act'.kind]),fun _ id ob h=>bP h,h,fun σ' K' ha hf hK'=>?_⟩
   simp only [ag,af]
   rw [hf.heq (by simp [Act'.kind])]
   exact hK'
 | box x=>
   simp only [ag,af] at h
   split at h
   · rename_i v hv
     split at h
     · rename_i hn
       refine ⟨_,_,fun h=>absurd h (by simp [Act'.kind]),fun _ id ob h=>bP h,h,fun σ' K' ha hf hK'=>?_⟩
       simp only [Act'.rds] at ha
       simp only [ag,af,ha.ev,hv,if_pos hn]
       rw [hf.heq (by simp [Act'.kind])]
       exact hK'
     · exact h.elim
   · exact h.elim
 | mkm e by' e2 sz n=>
   simp only [ag,af] at h
   split at h
   · rename_i k m hm
     obtain ⟨h1,h2,h3⟩:=h
     refine ⟨_,_,fun h=>absurd h (by simp [Act'.kind]),fun _ id ob h=>bP h,h3,fun σ' K' ha hf hK'=>?_⟩
     simp only [Act'.rds] at ha
     simp only [ag,af,ha.ev,hm]
     rw [hf.heq (by simp [Act'.kind])]
     exact ⟨h1,h2,hK'⟩
   · exact h.elim
 | mk0 e sz by' n=>
   simp only [ag,af] at h
   split at h
   · rename_i k m hm
     obtain ⟨h1,h2,h3⟩:=h
     refine ⟨_,_,fun h=>absurd h (by simp [Act'.kind]),fun _ id ob h=>bP h,h3,fun σ' K' ha hf hK'=>?_⟩
     simp only [Act'.rds] at ha
     simp only [ag,af,ha.ev,hm]
     rw [hf.heq (by simp [Act'.kind])]
     exact ⟨h1,h2,hK'⟩
   · exact h.elim
 | mks e sz by' z n=>
   simp only [ag,af] at h
   split at h
   · rename_i k m hm
     obtain ⟨h1,h2,h3⟩:=h
     refine ⟨_,_,fun h=>absurd h (by simp [Act'.kind]),fun _ id ob h=>bP h,h3,fun σ' K' ha hf hK'=>?_⟩
     simp only [Act'.rds] at ha
     simp only [ag,af,ha.ev,hm]
     rw [hf.heq (by simp [Act'.kind])]
     exact ⟨h1,h2,hK'⟩
   · exact h.elim
 | s2b x=>
   simp only [ag,af] at h
   split at h
   · rename_i s hs
     refine ⟨σ.h,_,fun _=>rfl,fun _ _ _ h=>h,h.2,fun σ' K' ha hf hK'=>?_⟩
     simp only [Act'.rds] at ha
     simp only [ag,af,ha.ev,hs]
     exact ⟨h.1,hK'⟩
   · exact h.elim
 | st n p x=>
   simp only [ag,af] at h
   split at h
   · rename_i a v ha hv
     split at h
     · rename_i hn
       split at h
       · rename_i σ1 hs
         have hr:σ1.r=σ.r∧∀ σ':St,σ'.h=σ.h→σ'.stor n a (cl v)=some { σ' with h:=σ1.h }:=by
          refine ⟨Oq _ _ _ _ hs,fun σ' he=>?_⟩
          have h1:=K1 σ'.r σ n a (cl v)
          have h2:({ σ with r:=σ'.r }:St)=σ':=by rw [←he]
          rw [h2,hs] at h1
          rw [h1,Option.map_some]
         refine ⟨σ1.h,.tup [],fun h=>absurd h (by simp [Act'.kind]),fun h=>absurd h (by simp [Act'.kind]),?_,fun σ' K' hg hf hK'=>?_⟩
         · have:({ σ with h:=σ1.h }:St)=σ1:=by rw [←hr.1]
           rw [this]; exact h
         · simp only [Act'.rds] at hg
           simp only [ag,af,hg.l.ev,ha,hg.r.ev,hv,if_pos hn,hr.2 σ' (hf.heq (by simp [Act'.kind]))]
           exact hK'
       · exact h.elim
     · exact h.elim
   · exact h.elim
 | app x y e sz by'=>
   simp only [ag,af] at h
   split at h
   · rename_i u v hu hv
     split at h
     · rename_i sz' l hl
       obtain ⟨h0,h⟩:=h
       have hk2:∀ y' e' sz' b',2≤(Act'.app x y' e' sz' b').kind:=fun _ _ _ _=>Hn x
       split at h
       · rename_i sz2
         refine ⟨_,_,fun h=>absurd h (by have:=hk2 y e sz by'; omega),fun _ id ob h=>bP h,h.2,fun σ' K' hg hf hK'=>?_⟩
         have hne:¬(Act'.app x y e sz by').kind≤1:=by have:=hk2 y e sz by'; omega
         simp only [post,if_neg hne] at hK'
         simp only [Act'.rds] at hg
         have he:=hf.heq (hk2 y e sz by')
         simp only [ag,af,hg.l.ev,hu,hg.r.ev,hv]
         rw [he]
         simp only [hl]
         exact ⟨h0,h.1,hK'⟩
       · rename_i id n
         split at h
         · rename_i e' sz2 l0 ha
           obtain ⟨h1,h2,h3,h4,h5⟩:=h
           have hne:¬(Act'.app x y e sz by').kind≤1:=by have:=hk2 y e sz by'; omega
           have hn2:(Act'.app x y e sz by').kind≠2:=by
            cases x with
            | t n=>simp [Act'.kind,lM]
            | v x=>
              simp only [St.ev,Option.some.injEq] at hu
              subst hu
              simp [Act'.kind,lM]
           refine ⟨_,_,fun h=>absurd h hne,fun h=>absurd h hn2,h5,fun σ' K' hg hf hK'=>?_⟩
           simp only [post,if_neg hne] at hK'
           simp only [Act'.rds] at hg
           have he:=hf.heq (hk2 y e sz by')
           have ha':σ'.arr? id=some (e',sz2,l0):=by simp only [St.arr?,he]; exact ha
           simp only [ag,af,hg.l.ev,hu,hg.r.ev,hv,ha']
           rw [he]
           simp only [hl]
           exact ⟨h0,h1,h2,h3,h4,hK'⟩
         · exact h.elim
       · rename_i id i n
         split at h
         · rename_i e1 e2 sz2 rows ha
           split at h
           · rename_i r hr
             obtain ⟨h1,h2,h3,h4,h5⟩:=h
             have hne:¬(Act'.app x y e sz by').kind≤1:=by have:=hk2 y e sz by'; omega
             have hn2:(Act'.app x y e sz by').kind≠2:=by
              cases x with
              | t n=>simp [Act'.kind,lM]
              | v x=>
                simp only [St.ev,Option.some.injEq] at hu
                subst hu
                simp [Act'.kind,lM]
             refine ⟨_,_,fun h=>absurd h hne,fun h=>absurd h hn2,h5,fun σ' K' hg hf hK'=>?_⟩
             simp only [post,if_neg hne] at hK'
             simp only [Act'.rds] at hg
             have he:=hf.heq (hk2 y e sz by')
             have ha':σ'.rws? id=some (e1,e2,sz2,rows):=by simp only [St.rws?,he]; exact ha
             simp only [ag,af,hg.l.ev,hu,hg.r.ev,hv,ha',hr]
             rw [he]
             simp only [hl]
             exact ⟨h0,h1,h2,h3,h4,hK'⟩
           · exact h.elim
         · exact h.elim
       · exact h.elim
     · exact h.elim
   · exact h.elim
 | callH f xs=>
   simp only [ag] at h
   split at h
   · rename_i vs hvs
     obtain ⟨ps,h1,r,H',h2,h3,h4⟩:=h
     refine ⟨_,_,fun h=>absurd h (by simp [Act'.kind]),fun h=>absurd h (by simp [Act'.kind]),h4,fun σ' K' ha hf hK'=>?_⟩
     simp only [Act'.rds] at ha
     have he:=hf.heq (show 2≤(Act'.callH f xs).kind by simp [Act'.kind])
     simp only [ag,ha.evs,hvs]
     refine ⟨ps,by rw [x0 he]; exact h1,r,H',by rw [he]; exact h2,by rw [he]; exact h3,?_⟩
     rw [he,Hj he]
     exact hK'
   · exact h.elim
 | inv tbl x xs=>exact (show False from h).elim
 | rgs x=>
   simp only [ag,af] at h
   split at h
   · rename_i s hs
     refine ⟨_,_,fun h=>absurd h (by simp [Act'.kind]),fun _ id ob h=>bP h,h,fun σ' K' ha hf hK'=>?_⟩
     simp only [Act'.rds] at ha
     simp only [ag,af,ha.ev,hs]
     rw [hf.heq (by simp [Act'.kind])]
     exact hK'
   · exact h.elim
 | nxs x=>
   simp only [ag,af] at h
   split at h
   · rename_i id n hs
     split at h
     · rename_i s p hi
       split at h
       · rename_i hp
         refine ⟨_,_,fun h=>absurd h (by simp [Act'.kind]),fun h=>absurd h (by simp [Act'.kind]),h,fun σ' K' ha hf hK'=>?_⟩
         simp only [Act'.rds] at ha
         have he:=hf.heq (show 2≤(Act'.nxs x).kind by simp [Act'.kind])
         have hi':σ'.itr? id=some (s,p):=by simp only [St.itr?,he]; exact hi
         simp only [ag,af,ha.ev,hs,hi',if_pos hp,he]
         exact hK'
       · rename_i hp
         refine ⟨σ.h,_,fun h=>absurd h (by simp [Act'.kind]),fun h=>absurd h (by simp [Act'.kind]),h,fun σ' K' ha hf hK'=>?_⟩
         simp only [Act'.rds] at ha
         have he:=hf.heq (show 2≤(Act'.nxs x).kind by simp [Act'.kind])
         have hi':σ'.itr? id=some (s,p):=by simp only [St.itr?,he]; exact hi
         simp only [ag,af,ha.ev,hs,hi',if_neg hp]
         simp only [post,show ¬(Act'.nxs x).kind≤1 by simp [Act'.kind],if_false] at hK'
         rw [←he] at hK'
         exact hK'
     · exact h.elim
   · exact h.elim
 | yld g xs=>
   simp only [ag,af] at h
   split at h
   · rename_i id n vs hg hvs
     split at h
     · rename_i v b l us hgh hus
       obtain ⟨h1,h2,h3⟩:=h
       refine ⟨_,_,fun h=>absurd h (by simp [Act'.kind]),fun h=>absurd h (by simp [Act'.kind]),h3,fun σ' K' ha hf hK'=>?_⟩
       simp only [Act'.rds] at ha
       have he:=hf.heq (show 2≤(Act'.yld g xs).kind by simp [Act'.kind])
       have hgh':σ'.gh? id=some ((v,b)::l):=by simp only [St.gh?,he]; exact hgh
       simp only [ag,af,ha.l.ev,hg,ha.r.evs,hvs,hgh',he,hus]
       exact ⟨h1,h2,hK'⟩
     · exact h.elim
   · exact h.elim
 | trc x hi sz=>exact (show False from h).elim
 | ltr e sz xs=>
   simp only [ag,af] at h
   split at h
   · rename_i vs hvs
     split at h
     · rename_i us hus
       obtain ⟨h1,h2,h3⟩:=h
       rw [HR] at h3
       refine ⟨(σ.kill (ai vs)).h++[some (Ob.arr e sz us)],.ref (σ.kill (ai vs)).h.length us.length,fun h=>absurd h (by simp [Act'.kind]),fun h=>absurd h (by simp [Act'.kind]),h3,fun σ' K' ha hf hK'=>?_⟩
       simp only [Act'.rds] at ha
       have he:=hf.heq (show 2≤(Act'.ltr e sz xs).kind by simp [Act'.kind])
       have hk:(σ'.kill (ai vs)).h=(σ.kill (ai vs)).h:=uK _ he
       simp only [ag,af,ha.evs,hvs,he,hus,hk,HR]
       exact ⟨h1,h2,hK'⟩
     · exact h.elim
   · exact h.elim
 | mkp kt=>
   simp only [ag,af] at h
   refine ⟨_,_,fun h=>absurd h (by simp [Act'.kind]),fun _ id ob h=>bP h,h,fun σ' K' ha hf hK'=>?_⟩
   simp only [ag,af]
   rw [hf.heq (by simp [Act'.kind])]
   exact hK'
 | mup kt x k v=>
   simp only [ag,af] at h
   split at h
   · rename_i id n kv u h1 h2 h3
     split at h
     · rename_i kt' l u' hm hp
       obtain ⟨g1,g2,g3,g4,g5⟩:=h
       refine ⟨_,_,fun h=>absurd h (by simp [Act'.kind]),fun h=>absurd h (by simp [Act'.kind]),g5,fun σ' K' hg hf hK'=>?_⟩
       simp only [Act'.rds] at hg
       have he:=hf.heq (show 2≤(Act'.mup kt x k v).kind by simp [Act'.kind])
       have hm':σ'.mp? id=some (kt',l):=by simp only [St.mp?,he]; exact hm
       simp only [ag,af,hg.l.ev,h1,hg.r.l.ev,h2,hg.r.r.ev,h3,hm']
       rw [he]
       simp only [hp]
       exact ⟨g1,g2,g3,g4,hK'⟩
     · exact h.elim
   · exact h.elim
 | _=>
   simp only [ag,af] at h
   split at h
   · rename_i v hv
     exact MA (by simp only [Act'.kind]; decide) hv h
   · exact h.elim
theorem iF {x:AOp} (h:aC Φ x K σ):Fs (aC Φ x) x.a.kind x.rds x.d σ K:=by
 have sk:(∀ σ' (K':St→Prop),Agr σ σ' x.rds→K' (σ'.put x.d (.tup []))→aC Φ x K' σ')→K (σ.put x.d (.tup []))→Fs (aC Φ x) 0 x.rds x.d σ K:=
  fun h1 h2=>⟨σ.h,.tup [],fun _=>rfl,fun _ _ _ h=>h,h2,fun σ' K' ha _ hK'=>h1 σ' K' ha hK'⟩
 have up:∀ {T:(St→Prop)→St→Prop},Fs T 0 x.rds x.d σ K→Fs T x.a.kind x.rds x.d σ K:=by
  rintro T ⟨h',v,h1,_,h3,h4⟩
  have e:=h1 (by decide)
  subst e
  refine ⟨σ.h,v,fun _=>rfl,fun _ _ _ h=>h,h3,fun σ' K' ha hf hK'=>h4 σ' K' ha (.inl rfl) ?_⟩
  simp only [post,Nat.zero_le,if_true] at hK' ⊢
  split at hK'
  · exact hK'
  · rw [hf.heq (by omega)]
    exact hK'
 have lift:∀ {T:(St→Prop)→St→Prop} {rs:List Nat},Fs (ag Φ x.d x.a) x.a.kind rs x.d σ K→(∀ t,t∈rs→t∈x.rds)→(∀ σ' K',Agr σ σ' x.rds→ag Φ x.d x.a K' σ'→T K' σ')→Fs T x.a.kind x.rds x.d σ K:=by
  rintro T rs ⟨h',v,h1,h2,h3,h4⟩ hs hT
  exact ⟨h',v,h1,h2,h3,fun σ' K' ha hf hK'=>hT _ _ ha (h4 σ' K' (ha.sub hs) hf hK')⟩
 have hsub:∀ t,t∈x.a.rds→t∈x.rds:=fun t ht=>List.mem_append_left _ ht
 unfold aC at h
 cases hg:x.g with
 | none=>
   simp only [hg] at h
   refine lift (we h) hsub fun σ' K' _ h'=>?_
   unfold aC
   simp only [hg]; exact h'
 | some tb=>
   obtain ⟨t,b⟩:=tb
   have ht:t∈x.rds:=by simp [AOp.rds,hg]
   simp only [hg] at h
   split at h
   · rename_i y hy
     have hgo:∀ σ' (K':St→Prop),Agr σ σ' x.rds→y=b→ag Φ x.d x.a K' σ'→aC Φ x K' σ':=by
      intro σ' K' ha hyb h'
      subst hyb
      unfold aC
      simp only [hg,ha t ht,hy]
      cases y<;>simp [Br,h']
     have hsk:∀ σ' (K':St→Prop),Agr σ σ' x.rds→y≠b→K' (σ'.put x.d (.tup []))→aC Φ x K' σ':=by
      intro σ' K' ha hyb h'
      unfold aC
      simp only [hg,ha t ht,hy]
      cases y<;>cases b<;>first | exact absurd rfl hyb | simp [Br,h']
     by_cases hyb:y=b
     · have h':ag Φ x.d x.a K σ:=by subst hyb; cases y<;>simp [Br] at h<;>exact h
       exact lift (we h') hsub fun σ' K' ha h''=>hgo σ' K' ha hyb h''
     · have h':K (σ.put x.d (.tup [])):=by cases y<;>cases b<;>first | exact absurd rfl hyb | (simp [Br] at h; exact h)
       exact up (sk (fun σ' K' ha h''=>hsk σ' K' ha hyb h'') h')
   · rename_i hy
     refine up (sk (fun σ' K' ha h''=>?_) h)
     unfold aC
     simp only [hg,ha t ht,hy]
     exact h''
   · exact h.elim
def Eqv (σ τ:St):Prop:=τ.h=σ.h∧∀ t,lk τ.r t=lk σ.r t
def Inv (R:St→Prop):Prop:=∀ σ τ,Eqv σ τ→R σ→R τ
theorem Ce (σ:St) (h':List (Option Ob)) (d:Option Nat) (v:V) (t:Nat):lk (St.put { σ with h:=h' } d v).r t=if d=some t then some v else lk σ.r t:=by
 cases d with
 | none=>simp [St.put]
 | some k=>simp only [St.put,lk,Option.some.injEq]
theorem uO (σ:St) (d:Option Nat) (v:V):(σ.put d v).h=σ.h:=by cases d<;>rfl
theorem KG {x:AOp} {R:St→Prop} (hR:Inv R):Inv (aC Φ x R):=by
 intro σ τ he h
 obtain ⟨h',v,h1,h2,h3,h4⟩:=iF h
 refine h4 τ R (fun t _=>he.2 t) (.inr (.inr he.1)) (hR _ _ ⟨?_,fun t=>?_⟩ h3)
 · simp only [post,uO]
   split
   · rename_i hk; rw [h1 hk]; exact he.1
   · rfl
 · simp only [post,Ce,he.2]
def ud (x y:AOp):Bool:=
 (match x.d with
  | some d=>!(ip d y.rds) && decide (y.d≠some d)
  | none=>true) &&
 (match y.d with
  | some d=>!(ip d x.rds)
  | none=>true) &&
 (x.a.kind == 0 || y.a.kind == 0 || (x.a.kind == 1 && decide (y.a.kind≤2)))
theorem Fk {x y:AOp} (h:ud x y=true):
 (∀ d,x.d=some d→d ∉ y.rds∧y.d≠some d)∧(∀ d,y.d=some d→d ∉ x.rds)∧(x.a.kind=0∨y.a.kind=0∨(x.a.kind=1∧y.a.kind≤2)):=by
 simp only [ud,Bool.and_eq_true] at h
 obtain ⟨⟨h1,h2⟩,h3⟩:=h
 refine ⟨fun d hd=>?_,fun d hd=>?_,by simpa [or_assoc] using h3⟩
 · simp only [hd,Bool.and_eq_true,Bool.not_eq_true',decide_eq_true_eq] at h1
   exact ⟨fun hm=>by rw [kw.2 hm] at h1; simp at h1,h1.2⟩
 · simp only [hd,Bool.not_eq_true'] at h2
   exact fun hm=>by rw [kw.2 hm] at h2; simp at h2
theorem It {x y:AOp} (hap:ud x y=true) {R:St→Prop} (hR:Inv R) (h:aC Φ x (aC Φ y R) σ):aC Φ y (aC Φ x R) σ:=by
 obtain ⟨a1,a2,a3⟩:=Fk hap
 obtain ⟨hx,vx,x1,x2,x3,x4⟩:=iF h
 obtain ⟨hy,vy,y1,y2,y3,y4⟩:=iF x3
 rw [uO] at y1 y2
 have key:Eqv (St.put { (St.put { σ with h:=hx } x.d vx) with h:=hy } y.d vy) (post x.a.kind (post y.a.kind σ hy y.d vy) hx x.d vx)→aC Φ y (aC Φ x R) σ:=by
  intro he
  refine y4 σ _ ?_ ?_ ?_
  · intro t ht
    rw [Ce]
    split
    · rename_i hd; exact absurd ht (a1 t hd).1
    · rfl
  · rcases a3 with h | h | h
    · refine .inr (.inr ?_); rw [uO]; exact (x1 (by omega)).symm
    · exact .inl h
    · refine .inr (.inr ?_); rw [uO]; exact (x1 (by omega)).symm
  · refine x4 _ _ ?_ ?_ (hR _ _ he y3)
    · intro t ht
      simp only [post,Ce]
      split
      · rename_i hd; exact absurd ht (a2 t hd)
      · rfl
    · rcases a3 with h | h | h
      · exact .inl h
      · refine .inr (.inr ?_)
        simp only [post,uO,h,Nat.zero_le,if_true]
      · by_cases hk:y.a.kind≤1
        · refine .inr (.inr ?_)
          simp only [post,uO,if_pos hk]
        · refine .inr (.inl ⟨h.1,?_⟩)
          intro id ob hid
          simp only [post,uO,if_neg hk]
          exact y2 (by omega) id ob (by rw [x1 (by omega)]; exact hid)
 apply key
 constructor
 · simp only [post,uO]
   rcases a3 with h | h | h
   · rw [if_pos (by omega)]
     split
     · rename_i hk; rw [y1 hk,x1 (by omega)]
     · rfl
   · simp only [h,Nat.zero_le,if_true]
     rw [y1 (by omega)]
     split
     · rename_i hk; rw [x1 hk]
     · rfl
   · rw [if_pos (by omega)]
     split
     · rename_i hk; rw [y1 hk,x1 (by omega)]
     · rfl
 · intro t
   simp only [post,Ce]
   by_cases hxd:x.d=some t
   · rw [if_pos hxd,if_neg (a1 t hxd).2,if_pos hxd]
   · simp only [if_neg hxd]
end
end Go.Abs
end
section
namespace Go.Abs
open Go.RowKit
section
variable {P:Program} {N:Nat} {M0:Mem} {B:Bas} {w0:World} {Φ:Ctr}
theorem iE {x:AOp} {σ:St} {K K':St→Prop} (h:aC Φ x K σ) (hk:∀ τ,K τ→K' τ):aC Φ x K' σ:=by
 obtain ⟨h',v,h1,h2,h3,h4⟩:=iF h
 refine h4 σ K' (fun _ _=>rfl) (.inr (.inr rfl)) (hk _ ?_)
 simp only [post]
 split
 · rename_i hle; rw [h1 hle] at h3; exact h3
 · exact h3
mutual
theorem DZ:∀ {v u:V},pur [] v=some u→aq v=[]∧∀ h,pur h v=some u
 | .nil sz,_,hv=>⟨rfl,fun h=>by simpa only [pur] using hv⟩
 | .ref id n,_,hv=>by simp [pur,pur1] at hv
 | .strct cs,_,hv=>by
   simp only [pur,Option.map_eq_some_iff] at hv
   obtain ⟨us,h1,h2⟩:=hv
   obtain ⟨k1,k2⟩:=iJ h1
   exact ⟨by simpa only [aq] using k1,fun h=>by simp only [pur,k2 h,Option.map_some,h2]⟩
 | .tup cs,_,hv=>by
   simp only [pur,Option.map_eq_some_iff] at hv
   obtain ⟨us,h1,h2⟩:=hv
   obtain ⟨k1,k2⟩:=iJ h1
   exact ⟨by simpa only [aq] using k1,fun h=>by simp only [pur,k2 h,Option.map_some,h2]⟩
 | .fn f a b,_,hv=>by
   simp only [pur] at hv
   split at hv
   · rename_i a' b' h1 h2
     obtain ⟨k1,k2⟩:=iJ h1
     obtain ⟨k3,k4⟩:=iJ h2
     exact ⟨by simp only [aq,k1,k3,List.append_nil],fun h=>by simp only [pur,k2 h,k4 h]; exact hv⟩
   · cases hv
 | .iface t x,_,hv=>by
   simp only [pur,Option.map_eq_some_iff] at hv
   obtain ⟨us,h1,h2⟩:=hv
   obtain ⟨k1,k2⟩:=DZ h1
   exact ⟨by simpa only [aq] using k1,fun h=>by simp only [pur,k2 h,Option.map_some,h2]⟩
 | .ptr _ _,_,hv=>by simp only [pur] at hv; cases hv
 | .eptr _ _ _ _,_,hv=>by simp only [pur] at hv; cases hv
 | .int _ _,_,hv=>⟨rfl,fun h=>by simpa only [pur] using hv⟩
 | .bool _,_,hv=>⟨rfl,fun h=>by simpa only [pur] using hv⟩
 | .str _,_,hv=>⟨rfl,fun h=>by simpa only [pur] using hv⟩
 | .seq _ _,_,hv=>⟨rfl,fun h=>by simpa only [pur] using hv⟩
 | .fseq _ _,_,hv=>⟨rfl,fun h=>by simpa only [pur] using hv⟩
 | .sptr _ _,_,hv=>⟨rfl,fun h=>by simpa only [pur] using hv⟩
 | .nilptr,_,hv=>⟨rfl,fun h=>by simpa only [pur] using hv⟩
 | .nilfn,_,hv=>⟨rfl,fun h=>by simpa only [pur] using hv⟩
 | .niliface,_,hv=>⟨rfl,fun h=>by simpa only [pur] using hv⟩
 | .junk,_,hv=>⟨rfl,fun h=>by simpa only [pur] using hv⟩
theorem iJ:∀ {v u:List V},purs [] v=some u→ai v=[]∧∀ h,purs h v=some u
 | [],_,hv=>⟨rfl,fun h=>by simpa only [purs] using hv⟩
 | v::vs,_,hv=>by
   simp only [purs] at hv
   split at hv
   · rename_i a' b' h1 h2
     obtain ⟨k1,k2⟩:=DZ h1
     obtain ⟨k3,k4⟩:=iJ h2
     exact ⟨by simp only [ai,k1,k3,List.append_nil],fun h=>by simp only [purs,k2 h,k4 h]; exact hv⟩
   · cases hv
end
theorem qt {d:Option Nat} {a:Act'} {K:St→Prop} {σ:St} (h:ag Φ d a K σ):af Φ d a K σ:=by
 cases a with
 | lit e0 sz xs=>
   simp only [ag] at h
   split at h
   · rename_i vs hvs
     split at h
     · rename_i us hus
       obtain ⟨k1,k2⟩:=iJ hus
       simp only [af,hvs,k2 σ.h,k1,St.kill]
       exact h
     · exact h.elim
   · exact h.elim
 | call f xs=>
   simp only [ag] at h
   split at h
   · rename_i vs hvs
     split at h
     · rename_i us hus
       obtain ⟨r,h1,h3⟩:=h
       simp only [af,hvs,hus]
       exact ⟨r,.inl ⟨h1,fun _=>h3⟩⟩
     · exact h.elim
   · exact h.elim
 | callH f xs=>
   simp only [ag] at h
   split at h
   · rename_i vs hvs
     obtain ⟨ps,h1,r,H',h2,h3,h4⟩:=h
     simp only [af,hvs]
     exact ⟨ps,h1,r,H',h2,h3,fun _ _=>h4⟩
   · exact h.elim
 | inv tbl x xs=>exact (show False from h).elim
 | trc x hi sz=>exact (show False from h).elim
 | callv g xs=>
   simp only [ag] at h
   split at h
   · rename_i f a b vs hg hvs
     split at h
     · rename_i us hus
       obtain ⟨r,h1,h3⟩:=h
       simp only [af,hg,hvs,hus]
       exact ⟨r,.inl ⟨h1,fun _=>h3⟩⟩
     · exact h.elim
   · exact h.elim
 | _=>exact h
theorem KE {x:AOp} {K:St→Prop} {σ:St} (h:aC Φ x K σ):wop Φ x K σ:=by
 unfold aC at h
 unfold wop
 split at h
 · exact qt h
 · split at h
   · split
     · rename_i hb; rw [if_pos hb] at h; exact ⟨fun hy=>qt (h.1 hy),h.2⟩
     · rename_i hb; rw [if_neg hb] at h; exact ⟨h.1,fun hy=>qt (h.2 hy)⟩
   · exact h
   · exact h
def rt (Φ:Ctr) (ops:Array Oper) (xs:List AOp) (K:St→Prop):Nat→Array Bool→St→Prop
 | 0,listed,σ=>Region.ready .any ops listed=[]∧K σ
 | f + 1,listed,σ=>(Region.ready .any ops listed=[]→K σ)∧∀ i∈Region.ready .any ops listed,∃ x,xs[i]?=some x∧aC Φ x (rt Φ ops xs K f (listed.setIfInBounds i true)) σ
def Ht (Φ:Ctr) (ops:Array Oper) (xs:List AOp) (K:St→Prop):Nat→Array Bool→St→Prop
 | 0,listed,σ=>Region.ready .any ops listed=[]∧K σ
 | f + 1,listed,σ=>(Region.ready .any ops listed=[]→K σ)∧∀ i∈Region.ready .any ops listed,∃ x,xs[i]?=some x∧wop Φ x (Ht Φ ops xs K f (listed.setIfInBounds i true)) σ
variable {ops:Array Oper} {xs:List AOp} {K:St→Prop}
theorem Ak (hK:Inv K):∀ (f:Nat) (listed:Array Bool),Inv (rt Φ ops xs K f listed)
 | 0,listed=>fun σ τ he h=>⟨h.1,hK σ τ he h.2⟩
 | f + 1,listed=>fun σ τ he h=>⟨fun h0=>hK σ τ he (h.1 h0),fun i hi=>by
   obtain ⟨x,hx,hw⟩:=h.2 i hi
   exact ⟨x,hx,KG (Ak hK f _) σ τ he hw⟩⟩
def rn (ops:Array Oper) (listed:Array Bool):Prop:=∀ j oj,ops[j]?=some oj→listed.getD j false=true→∀ e∈oj.after,Region.binds .any e=true→listed.getD e.on false=true
def vE (anc:List Nat) (j i:Nat):Bool:=decide (i < j) && Nat.testBit (anc.getD j 0) i
def By (ops:Array Oper) (anc:List Nat):Prop:=∀ j i oj,ops[j]?=some oj→vE anc j i=true→∃ e∈oj.after,Region.binds .any e=true∧e.on < j∧(e.on=i∨vE anc e.on i=true)
theorem rn.set {listed:Array Bool} {i:Nat} (h:rn ops listed) (hi:i∈Region.ready .any ops listed):rn ops (listed.setIfInBounds i true):=by
 obtain ⟨_,oi,hoi,hall⟩:=mem_ready.1 hi
 intro j oj hj hl e he hb
 by_cases hij:i=j
 · subst hij
   have:oj=oi:=Option.some.inj (hj.symm.trans hoi)
   subst this
   exact getD_set_true (hall e he hb)
 · rw [getD_set_ne false hij] at hl
   exact getD_set_true (h j oj hj hl e he hb)
theorem By.listed {anc:List Nat} (ha:By ops anc) {listed:Array Bool} (hc:rn ops listed) {i:Nat}:∀ (j:Nat) (oj:Oper),ops[j]?=some oj→(∀ e∈oj.after,Region.binds .any e=true→listed.getD e.on false=true)→
 vE anc j i=true→(∀ e o',e < ops.size→ops[e]?=some o'→True)→(∀ e∈oj.after,Region.binds .any e=true→e.on < j→∃ o',ops[e.on]?=some o')→listed.getD i false=true:=by
 intro j
 induction j using Nat.strongRecOn with
 | _ j ih=>
   intro oj hj hp hanc _ hex
   obtain ⟨e,he,hb,hlt,h⟩:=ha j i oj hj hanc
   have hl:=hp e he hb
   rcases h with h | h
   · rw [←h]; exact hl
   · obtain ⟨o',ho'⟩:=hex e he hb hlt
     refine ih e.on hlt o' ho' (fun e' he' hb'=>hc e.on o' ho' hl e' he' hb') h (fun _ _ _ _=>trivial) (fun e' he' hb' hlt'=>?_)
     have hs:e'.on < ops.size:=by
      have:=(Array.getElem?_eq_some_iff.1 ho').1
      omega
     exact ⟨ops[e'.on],by simp [hs]⟩
theorem ul {anc:List Nat} (ha:By ops anc) (hK:Inv K) {i:Nat} {x:AOp} (hi:xs[i]?=some x):
 ∀ (f:Nat) (listed:Array Bool) (σ:St),rn ops listed→
   (∀ j y,xs[j]?=some y→j≠i→listed.getD j true=false→vE anc j i=false→ud x y=true)→
   i∈Region.ready .any ops listed→aC Φ x (rt Φ ops xs K f (listed.setIfInBounds i true)) σ→rt Φ ops xs K (f + 1) listed σ:=by
 intro f
 induction f with
 | zero=>
   intro listed σ _ _ hr H
   refine ⟨fun h=>(by rw [h] at hr; cases hr),fun j hj=>?_⟩
   by_cases hji:j=i
   · subst hji; exact ⟨x,hi,H⟩
   · obtain ⟨h',v,_,_,h3,_⟩:=iF H
     have:=ready_mono hj hji
     rw [h3.1] at this
     cases this
 | succ f ih=>
   intro listed σ hc hfree hr H
   refine ⟨fun h=>(by rw [h] at hr; cases hr),fun j hj=>?_⟩
   by_cases hji:j=i
   · subst hji; exact ⟨x,hi,H⟩
   · obtain ⟨h',v,_,_,h3,_⟩:=iF H
     obtain ⟨y,hy,_⟩:=h3.2 j (ready_mono hj hji)
     obtain ⟨hjun,oj,hoj,hall⟩:=mem_ready.1 hj
     have hiun:=(mem_ready.1 hr).1
     have hnot:vE anc j i=false:=by
      cases hb:vE anc j i with
      | false=>rfl
      | true=>
        have hs:j < ops.size:=(Array.getElem?_eq_some_iff.1 hoj).1
        have:=ha.listed hc j oj hoj hall hb (fun _ _ _ _=>trivial) (fun e _ _ hlt=>⟨ops[e.on]'(by omega),by simp⟩)
        rcases Nat.lt_or_ge i listed.size with h' | h'
        · simp [h'] at hiun this; rw [hiun] at this; cases this
        · simp [Array.getElem?_eq_none h'] at this
     have H':aC Φ x (aC Φ y (rt Φ ops xs K f ((listed.setIfInBounds i true).setIfInBounds j true))) σ:=iE H fun τ hτ=>by
      obtain ⟨y',hy',hw⟩:=hτ.2 j (ready_mono hj hji)
      rw [hy] at hy'
      cases hy'
      exact hw
     have H2:=It (hfree j y hy hji hjun hnot) (Ak hK f _) H'
     refine ⟨y,hy,iE H2 fun τ hτ=>ih (listed.setIfInBounds j true) τ (hc.set hj) ?_ (ready_mono hr (Ne.symm hji)) ?_⟩
     · intro k z hz hki hun hno
       refine hfree k z hz hki ?_ hno
       by_cases hjk:j=k
       · subst hjk; exact hjun
       · rw [getD_set_ne true hjk] at hun; exact hun
     · rw [Array.setIfInBounds_comm _ _ hji]
       exact hτ
def BW (ops:Array Oper) (xs:List AOp) (anc:List Nat):List Nat→Bool
 | []=>true
 | i::l=>!(ip i l) &&
   (match ops[i]? with
    | some o=>o.after.toList.all fun e=>!(Region.binds .any e) || (decide (e.on < ops.size) && !(ip e.on (i::l)))
    | none=>false) &&
   (match xs[i]? with
    | some x=>l.all fun j=>vE anc j i || (match xs[j]? with
      | some y=>ud x y
      | none=>false)
    | none=>false) && BW ops xs anc l
def tZ (ops:Array Oper) (xs:List AOp) (anc perm:List Nat):Bool:=
 decide (ops.size=xs.length) && decide (perm.length=ops.size) &&
 ((List.range ops.size).all fun j=>ip j perm) &&
 ((List.range ops.size).all fun j=>match ops[j]? with
   | some o=>o.after.toList.all fun e=>!(Region.binds .any e) || decide (e.on < j)
   | none=>true) &&
 ((List.range ops.size).all fun j=>match ops[j]? with
   | some o=>(List.range j).all fun i=>!(Nat.testBit (anc.getD j 0) i) || o.after.toList.any fun e=>Region.binds .any e && (decide (e.on=i) || vE anc e.on i)
   | none=>true) && BW ops xs anc perm
def gT (xs:List AOp):List Nat→Option (List AOp)
 | []=>some []
 | i::l=>match xs[i]?,gT xs l with
   | some x,some ys=>some (x::ys)
   | _,_=>none
theorem G7 {anc perm:List Nat} (hd:tZ ops xs anc perm=true):By ops anc:=by
 simp only [tZ,Bool.and_eq_true,decide_eq_true_eq] at hd
 obtain ⟨⟨⟨⟨⟨hsz,hpl⟩,hall⟩,hed⟩,hanc⟩,hap⟩:=hd
 intro j i oj hj hb
 simp only [vE,Bool.and_eq_true,decide_eq_true_eq] at hb
 have hs:j < ops.size:=(Array.getElem?_eq_some_iff.1 hj).1
 have h1:=List.all_eq_true.1 hanc j (List.mem_range.2 hs)
 simp only [hj] at h1
 have h2:=List.all_eq_true.1 h1 i (List.mem_range.2 hb.1)
 simp only [hb.2,Bool.not_true,Bool.false_or] at h2
 obtain ⟨e,he,h3⟩:=List.any_eq_true.1 h2
 simp only [Bool.and_eq_true,Bool.or_eq_true,decide_eq_true_eq] at h3
 have h4:=List.all_eq_true.1 hed j (List.mem_range.2 hs)
 simp only [hj] at h4
 have h5:=List.all_eq_true.1 h4 e he
 simp only [h3.1,Bool.not_true,Bool.false_or,decide_eq_true_eq] at h5
 exact ⟨e,by simpa using he,h3.1,h5,h3.2⟩
theorem Iu {anc:List Nat} (ha:By ops anc) (hK:Inv K):∀ (l:List Nat) (ys:List AOp) (listed:Array Bool) (σ:St),BW ops xs anc l=true→gT xs l=some ys→
 listed.size=ops.size→(∀ j,j < ops.size→listed.getD j false=!(ip j l))→rn ops listed→rq Φ ys K σ→rt Φ ops xs K l.length listed σ:=by
 intro l
 induction l with
 | nil=>
   intro ys listed σ _ hys hls hl hc h
   simp only [gT,Option.some.injEq] at hys
   subst hys
   refine ⟨?_,h⟩
   rw [List.eq_nil_iff_forall_not_mem]
   intro j hj
   obtain ⟨h1,o,ho,_⟩:=mem_ready.1 hj
   have hs:j < ops.size:=(Array.getElem?_eq_some_iff.1 ho).1
   have h2:=hl j hs
   have hlt:j < listed.size:=by omega
   simp [hlt,ip] at h1 h2
   rw [h1] at h2
   simp at h2
 | cons i l ih=>
   intro ys listed σ hp hys hls hl hc h
   simp only [BW,Bool.and_eq_true,Bool.not_eq_true'] at hp
   obtain ⟨⟨⟨hnd,hpre⟩,hap⟩,hrest⟩:=hp
   simp only [gT] at hys
   split at hys
   · rename_i x ys' hx hys'
     cases hys
     split at hpre
     · rename_i o ho
       have hks:i < ops.size:=(Array.getElem?_eq_some_iff.1 ho).1
       have hr:i∈Region.ready .any ops listed:=by
        refine mem_ready.2 ⟨?_,o,ho,fun e he hb=>?_⟩
        · have:=hl i hks
          have hlt:i < listed.size:=by omega
          simp [hlt,ip] at this ⊢
          exact this
        · have h5:=List.all_eq_true.1 hpre e (by simpa using he)
          simp only [hb,Bool.not_true,Bool.false_or,Bool.and_eq_true,decide_eq_true_eq] at h5
          rw [hl e.on h5.1]
          exact h5.2
       refine ul ha hK hx l.length listed σ hc ?_ hr ?_
       · intro j y hy hji hun hno
         simp only [hx] at hap
         by_cases hjs:j < ops.size
         · have h2:=hl j hjs
           have hlt:j < listed.size:=by omega
           simp [hlt] at hun h2
           rw [hun] at h2
           have h3:ip j (i::l)=true:=by
            cases hm:ip j (i::l) with
            | true=>rfl
            | false=>rw [hm] at h2; cases h2
           simp only [ip,if_neg hji] at h3
           have h4:=List.all_eq_true.1 hap j (kw.1 h3)
           simp only [hno,hy,Bool.false_or] at h4
           exact h4
         · have:¬j < listed.size:=by omega
           simp [this] at hun
       · refine iE h fun τ hτ=>ih ys' _ τ hrest hys' (by simp [hls]) ?_ (hc.set hr) hτ
         intro j hj
         by_cases hkj:i=j
         · subst hkj
           have hlt:i < listed.size:=by omega
           simp [hlt,hnd]
         · rw [getD_set_ne false hkj,hl j hj]
           have:j≠i:=fun h=>hkj h.symm
           simp only [ip,if_neg this]
     · cases hpre
   · cases hys
theorem E5 {anc perm:List Nat} {ys:List AOp} {σ:St} (hd:tZ ops xs anc perm=true) (hp:gT xs perm=some ys) (hK:Inv K) (h:rq Φ ys K σ):
 rt Φ ops xs K ops.size (Array.replicate ops.size false) σ:=by
 have ha:=G7 hd
 simp only [tZ,Bool.and_eq_true,decide_eq_true_eq] at hd
 obtain ⟨⟨⟨⟨⟨hsz,hpl⟩,hall⟩,hed⟩,hanc⟩,hap⟩:=hd
 have:=Iu ha hK perm ys (Array.replicate ops.size false) σ hap hp (by simp) (fun j hj=>by
  have:=List.all_eq_true.1 hall j (List.mem_range.2 hj)
  simp [hj,this]) (fun j oj hj hl=>by
  have hs:=(Array.getElem?_eq_some_iff.1 hj).1
  simp [hs] at hl) h
 rw [hpl] at this
 exact this
def yX (ops:Array Oper):Nat→Array Bool→List (List Nat)
 | 0,listed=>match Region.ready .any ops listed with
   | []=>[[]]
   | _=>[[ops.size]]
 | f + 1,listed=>match Region.ready .any ops listed with
   | []=>[[]]
   | i::r=>(i::r).flatMap fun i=>(yX ops f (listed.setIfInBounds i true)).map (i::·)
def tv:List AOp→Bool
 | []=>true
 | x::xs=>(match x.a with
   | .call _ _=>false
   | .callv _ _=>false
   | .callH _ _=>false
   | .inv _ _ _=>false
   | _=>true) && tv xs
def wD (xs:List AOp):List (List Nat)→Option (List (List AOp))
 | []=>some []
 | p::ps=>match gT xs p,wD xs ps with
   | some y,some ys=>some (y::ys)
   | _,_=>none
theorem DF {d:Option Nat} {a:Act'} (hn:(match a with | .call _ _=>false | .callv _ _=>false | .callH _ _=>false | .inv _ _ _=>false | _=>true)=true) {σ:St} {K:St→Prop} (h:af Φ d a K σ):∃ τ,∀ K',af Φ d a K' σ↔K' τ:=by
 cases a with
 | call=>cases hn
 | callv=>cases hn
 | callH=>cases hn
 | inv=>cases hn
 | mkp kt=>exact ⟨_,fun K'=>Iff.rfl⟩
 | ltr e sz xs=>
   simp only [af] at h ⊢
   split at h
   · split at h
     · exact ⟨_,fun K'=>⟨fun h=>h.2.2,fun h'=>⟨h.1,h.2.1,h'⟩⟩⟩
     · exact h.elim
   · exact h.elim
 | trc x hi sz=>
   simp only [af] at h ⊢
   split at h
   · split at h
     · exact ⟨_,fun K'=>⟨fun h=>h.2.2.2.2,fun h'=>⟨h.1,h.2.1,h.2.2.1,h.2.2.2.1,h'⟩⟩⟩
     · exact h.elim
   · exact h.elim
 | mup kt x k v=>
   simp only [af] at h ⊢
   split at h
   · split at h
     · exact ⟨_,fun K'=>⟨fun h=>h.2.2.2.2,fun h'=>⟨h.1,h.2.1,h.2.2.1,h.2.2.2.1,h'⟩⟩⟩
     · exact h.elim
   · exact h.elim
 | alc z=>exact ⟨_,fun K'=>Iff.rfl⟩
 | box x=>
   simp only [af] at h ⊢
   split at h
   · split at h
     · rename_i hc; simp only [if_pos hc]; exact ⟨_,fun K'=>Iff.rfl⟩
     · exact h.elim
   · exact h.elim
 | st n p x=>
   simp only [af] at h ⊢
   split at h
   · split at h
     · rename_i hc
       simp only [if_pos hc]
       split at h
       · exact ⟨_,fun K'=>Iff.rfl⟩
       · exact h.elim
     · exact h.elim
   · exact h.elim
 | s2b x=>
   simp only [af] at h ⊢
   split at h
   · exact ⟨_,fun K'=>⟨fun h=>h.2,fun h'=>⟨h.1,h'⟩⟩⟩
   · exact h.elim
 | lit e0 sz xs=>
   simp only [af] at h ⊢
   split at h
   · split at h
     · exact ⟨_,fun K'=>⟨fun h=>h.2.2,fun h'=>⟨h.1,h.2.1,h'⟩⟩⟩
     · exact h.elim
   · exact h.elim
 | app x y e sz by'=>
   simp only [af] at h ⊢
   split at h
   · split at h
     · obtain ⟨h0,h⟩:=h
       split at h
       · exact ⟨_,fun K'=>⟨fun h=>h.2.2,fun h'=>⟨h0,h.1,h'⟩⟩⟩
       · split at h
         · exact ⟨_,fun K'=>⟨fun h=>h.2.2.2.2.2,fun h'=>⟨h0,h.1,h.2.1,h.2.2.1,h.2.2.2.1,h'⟩⟩⟩
         · exact h.elim
       · split at h
         · split at h
           · exact ⟨_,fun K'=>⟨fun h=>h.2.2.2.2.2,fun h'=>⟨h0,h.1,h.2.1,h.2.2.1,h.2.2.2.1,h'⟩⟩⟩
           · exact h.elim
         · exact h.elim
       · exact h.elim
     · exact h.elim
   · exact h.elim
 | rgs x=>
   simp only [af] at h ⊢
   split at h
   · exact ⟨_,fun K'=>Iff.rfl⟩
   · exact h.elim
 | nxs x=>
   simp only [af] at h ⊢
   split at h
   · split at h
     · split at h
       · rename_i hp; simp only [if_pos hp]; exact ⟨_,fun K'=>Iff.rfl⟩
       · rename_i hp; simp only [if_neg hp]; exact ⟨_,fun K'=>Iff.rfl⟩
     · exact h.elim
   · exact h.elim
 | yld g xs=>
   simp only [af] at h ⊢
   split at h
   · split at h
     · exact ⟨_,fun K'=>⟨fun h=>h.2.2,fun h'=>⟨h.1,h.2.1,h'⟩⟩⟩
     · exact h.elim
   · exact h.elim
 | mkm e by' e2 sz n=>
   simp only [af] at h ⊢
   split at h
   · exact ⟨_,fun K'=>⟨fun h=>h.2.2,fun h'=>⟨h.1,h.2.1,h'⟩⟩⟩
   · exact h.elim
 | mk0 e sz by' n=>
   simp only [af] at h ⊢
   split at h
   · exact ⟨_,fun K'=>⟨fun h=>h.2.2,fun h'=>⟨h.1,h.2.1,h'⟩⟩⟩
   · exact h.elim
 | mks e sz by' z n=>
   simp only [af] at h ⊢
   split at h
   · exact ⟨_,fun K'=>⟨fun h=>h.2.2,fun h'=>⟨h.1,h.2.1,h'⟩⟩⟩
   · exact h.elim
 | _=>
   simp only [af] at h ⊢
   split at h
   · exact ⟨_,fun K'=>Iff.rfl⟩
   · exact h.elim
theorem NL {x:AOp} (hn:(match x.a with | .call _ _=>false | .callv _ _=>false | .callH _ _=>false | .inv _ _ _=>false | _=>true)=true) {σ:St} {K:St→Prop} (h:wop Φ x K σ):∃ τ,∀ K',wop Φ x K' σ↔K' τ:=by
 unfold wop at h ⊢
 split at h
 · exact DF hn h
 · split at h
   · rename_i t b _ _ y hy
     cases y<;>cases b<;>simp [Br] at h ⊢<;>first | exact DF hn h | exact ⟨_,fun K'=>Iff.rfl⟩
   · exact ⟨_,fun K'=>Iff.rfl⟩
   · exact h.elim
theorem HV (ops:Array Oper):∀ (f:Nat) (listed:Array Bool),yX ops f listed≠[]
 | 0,listed=>by unfold yX; split<;>simp
 | f + 1,listed=>by
   unfold yX
   split
   · simp
   · rename_i i r _
     have:=HV ops f (listed.setIfInBounds i true)
     intro h
     rw [List.flatMap_cons] at h
     exact this (List.map_eq_nil_iff.1 (List.append_eq_nil_iff.1 h).1)
theorem wK {i:Nat} {x:AOp}:∀ {xs:List AOp},tv xs=true→xs[i]?=some x→(match x.a with | .call _ _=>false | .callv _ _=>false | .callH _ _=>false | .inv _ _ _=>false | _=>true)=true
 | [],_,h=>by simp at h
 | y::ys,hn,h=>by
   simp only [tv,Bool.and_eq_true] at hn
   revert h
   revert i
   intro i h
   cases i with
   | zero=>simp at h; subst h; exact hn.1
   | succ i=>simp at h; exact wK hn.2 h
theorem Jm (hn:tv xs=true) (hsz:ops.size=xs.length):∀ (f:Nat) (listed:Array Bool) (σ:St),(∀ p∈yX ops f listed,∃ ys,gT xs p=some ys∧s7 Φ ys K σ)→
 Ht Φ ops xs K f listed σ:=by
 intro f
 induction f with
 | zero=>
   intro listed σ h
   unfold yX at h
   split at h
   · rename_i hr
     obtain ⟨ys,h1,h2⟩:=h [] (by simp)
     simp only [gT,Option.some.injEq] at h1
     subst h1
     exact ⟨hr,h2⟩
   · obtain ⟨ys,h1,_⟩:=h [ops.size] (by simp)
     simp [gT,hsz] at h1
 | succ f ih=>
   intro listed σ h
   unfold yX at h
   split at h
   · rename_i hr
     obtain ⟨ys,h1,h2⟩:=h [] (by simp)
     simp only [gT,Option.some.injEq] at h1
     subst h1
     refine ⟨fun _=>h2,fun i hi=>?_⟩
     rw [hr] at hi
     cases hi
   · rename_i i0 r hr
     refine ⟨fun h0=>(by rw [hr] at h0; cases h0),fun i hi=>?_⟩
     rw [hr] at hi
     have hall:∀ p∈yX ops f (listed.setIfInBounds i true),∃ ys,gT xs (i::p)=some ys∧s7 Φ ys K σ:=fun p hp=>h (i::p) (List.mem_flatMap.2 ⟨i,hi,List.mem_map.2 ⟨p,hp,rfl⟩⟩)
     obtain ⟨p0,hp0⟩:=List.exists_mem_of_ne_nil _ (HV ops f (listed.setIfInBounds i true))
     obtain ⟨ys0,h0,hw0⟩:=hall p0 hp0
     simp only [gT] at h0
     split at h0
     · rename_i x ys1 hx hy1
       cases h0
       obtain ⟨τ,hτ⟩:=NL (wK hn hx) hw0
       refine ⟨x,hx,(hτ _).2 (ih _ τ (fun p hp=>?_))⟩
       obtain ⟨ys,h2,hw⟩:=hall p hp
       simp only [gT,hx] at h2
       split at h2
       · rename_i x' ys2 hx' hy2
         cases hx'
         cases h2
         exact ⟨ys2,hy2,(hτ _).1 hw⟩
       · cases h2
     · cases h0
theorem KC {x:AOp} {σ:St} {K K':St→Prop} (h:aC Φ x K σ) (hk:∀ τ,K τ→K' τ):wop Φ x K' σ:=KE (iE h hk)
theorem BD:∀ (f:Nat) (listed:Array Bool) {σ:St},rt Φ ops xs K f listed σ→Ht Φ ops xs K f listed σ
 | 0,_,_,h=>h
 | f + 1,_,_,h=>⟨h.1,fun i hi=>by
   obtain ⟨x,hx,hw⟩:=h.2 i hi
   exact ⟨x,hx,KC hw fun τ hτ=>BD f _ hτ⟩⟩
def GD (xs:List AOp) (anc:List Nat) (listed:Array Bool) (i:Nat):Bool:=match xs[i]? with
 | some x=>(List.range xs.length).all fun j=>decide (j=i) || listed.getD j true || vE anc j i || (match xs[j]? with
   | some y=>ud x y
   | none=>true)
 | none=>false
def C5 (xs:List AOp) (anc:List Nat) (listed:Array Bool):List Nat→Option Nat
 | []=>none
 | i::l=>if GD xs anc listed i=true then some i else C5 xs anc listed l
def A9:List (Option OT)→Option OT
 | []=>none
 | [t]=>t
 | t::ts=>match t,A9 ts with
   | some a,some b=>some (.both a b)
   | _,_=>none
def opT:Option AOp→Option OT→Option OT
 | some x,some t=>some (.op x t)
 | _,_=>none
def Gj (ops:Array Oper) (xs:List AOp) (anc:List Nat):Nat→Array Bool→Option OT
 | 0,listed=>match Region.ready .any ops listed with
   | []=>some .nil
   | _=>none
 | f + 1,listed=>match Region.ready .any ops listed with
   | []=>some .nil
   | i::r=>match C5 xs anc listed (i::r) with
     | some k=>opT xs[k]? (Gj ops xs anc f (listed.setIfInBounds k true))
     | none=>A9 ((i::r).map fun k=>opT xs[k]? (Gj ops xs anc f (listed.setIfInBounds k true)))
theorem D2 {x:Option AOp} {t:Option OT} {u:OT} (h:opT x t=some u):∃ y v,x=some y∧t=some v∧u=.op y v:=by
 unfold opT at h
 split at h
 · cases h; exact ⟨_,_,rfl,rfl,rfl⟩
 · cases h
theorem A8 {K:St→Prop} {σ:St}:∀ {ts:List (Option OT)} {t:OT},A9 ts=some t→f0 Φ t K σ→∀ u∈ts,∃ v,u=some v∧f0 Φ v K σ
 | [],_,h,_,_,_=>by cases h
 | [t0],t,h,hW,u,hu=>by
   simp only [A9] at h
   simp only [List.mem_singleton] at hu
   subst hu
   exact ⟨t,h,hW⟩
 | t0::t1::ts,t,h,hW,u,hu=>by
   simp only [A9] at h
   cases t0 with
   | none=>cases h
   | some a=>
     cases h2:A9 (t1::ts) with
     | none=>simp [h2] at h
     | some b=>
       simp only [h2,Option.some.injEq] at h
       subst h
       rcases List.mem_cons.1 hu with rfl | hu
       · exact ⟨a,rfl,hW.1⟩
       · exact A8 h2 hW.2 u hu
theorem GF {anc:List Nat} {listed:Array Bool} {l:List Nat} {k:Nat} (h:C5 xs anc listed l=some k):k∈l∧GD xs anc listed k=true:=by
 induction l with
 | nil=>cases h
 | cons i l ih=>
   simp only [C5] at h
   split at h
   · rename_i hf; cases h; exact ⟨by simp,hf⟩
   · exact ⟨List.mem_cons_of_mem _ (ih h).1,(ih h).2⟩
theorem Jl {anc:List Nat} (ha:By ops anc) (hK:Inv K):∀ (f:Nat) (listed:Array Bool) (σ:St) (t:OT),rn ops listed→Gj ops xs anc f listed=some t→f0 Φ t K σ→
 rt Φ ops xs K f listed σ:=by
 intro f
 induction f with
 | zero=>
   intro listed σ l hc h hW
   unfold Gj at h
   split at h
   · rename_i hr
     cases h
     exact ⟨hr,hW⟩
   · cases h
 | succ f ih=>
   intro listed σ l hc h hW
   unfold Gj at h
   split at h
   · rename_i hr
     cases h
     exact ⟨fun _=>hW,fun i hi=>by rw [hr] at hi; cases hi⟩
   · rename_i i r hr
     split at h
     · rename_i k hk
       obtain ⟨x,l',hx,hl',rfl⟩:=D2 h
       obtain ⟨hk1,hfree⟩:=GF hk
       have hkr:k∈Region.ready .any ops listed:=by rw [hr]; exact hk1
       refine ul ha hK hx f listed σ hc ?_ hkr (iE hW fun τ hτ=>ih _ τ l' (hc.set hkr) hl' hτ)
       intro j y hy hjk hun hno
       unfold GD at hfree
       rw [hx] at hfree
       have:=List.all_eq_true.1 hfree j (List.mem_range.2 (List.getElem?_eq_some_iff.1 hy).1)
       simp only [hun,hno,hy,Bool.or_false,Bool.or_eq_true,decide_eq_true_eq,hjk,false_or] at this
       exact this
     · refine ⟨fun h0=>(by rw [hr] at h0; cases h0),fun k hk=>?_⟩
       obtain ⟨v,hv,hWv⟩:=A8 h hW _ (List.mem_map.2 ⟨k,by rw [hr] at hk; exact hk,rfl⟩)
       obtain ⟨x,l',hx,hl',rfl⟩:=D2 hv
       exact ⟨x,hx,iE hWv fun τ hτ=>ih _ τ l' (hc.set hk) hl' hτ⟩
def Ds (ops:Array Oper) (anc:List Nat):Bool:=
 ((List.range ops.size).all fun j=>match ops[j]? with
   | some o=>o.after.toList.all fun e=>!(Region.binds .any e) || decide (e.on < j)
   | none=>true) &&
 ((List.range ops.size).all fun j=>match ops[j]? with
   | some o=>(List.range j).all fun i=>!(Nat.testBit (anc.getD j 0) i) || o.after.toList.any fun e=>Region.binds .any e && (decide (e.on=i) || vE anc e.on i)
   | none=>true)
theorem Ho {anc:List Nat} (hd:Ds ops anc=true):By ops anc:=by
 simp only [Ds,Bool.and_eq_true] at hd
 obtain ⟨hed,hanc⟩:=hd
 intro j i oj hj hb
 simp only [vE,Bool.and_eq_true,decide_eq_true_eq] at hb
 have hs:j < ops.size:=(Array.getElem?_eq_some_iff.1 hj).1
 have h1:=List.all_eq_true.1 hanc j (List.mem_range.2 hs)
 simp only [hj] at h1
 have h2:=List.all_eq_true.1 h1 i (List.mem_range.2 hb.1)
 simp only [hb.2,Bool.not_true,Bool.false_or] at h2
 obtain ⟨e,he,h3⟩:=List.any_eq_true.1 h2
 simp only [Bool.and_eq_true,Bool.or_eq_true,decide_eq_true_eq] at h3
 have h4:=List.all_eq_true.1 hed j (List.mem_range.2 hs)
 simp only [hj] at h4
 have h5:=List.all_eq_true.1 h4 e he
 simp only [h3.1,Bool.not_true,Bool.false_or,decide_eq_true_eq] at h5
 exact ⟨e,by simpa using he,h3.1,h5,h3.2⟩
theorem rn.start {n:Nat}:rn ops (Array.replicate n false):=by
 intro j oj hj hl
 by_cases hjn:j < n
 · simp [hjn] at hl
 · simp [hjn] at hl
theorem PE {ps:List Nat} {os:List Oper} {ys:List AOp} (h:LOs P N ps ops os ys):∀ {i:Nat} {o:Oper} {y:AOp},os[i]?=some o→ys[i]?=some y→LO P N ps ops o y:=by
 induction h with
 | nil=>intro i o y h; simp at h
 | cons hl hs ih=>
   intro i o y h1 h2
   cases i with
   | zero=>simp at h1 h2; subst h1; subst h2; exact hl
   | succ i=>simp at h1 h2; exact ih h1 h2
theorem oY (hJC:qq P M0 B) {ρ:Option Nat} {Q:Exit→Act→World→Prop} {K:St→Prop} (hL:LOs P N B.ps ops ops.toList xs) (hK:∀ κ' M' σ' a' w',K σ'→Rel N M0 B w0 κ' M' σ' a' w'→Q .normal a' w'):
 ∀ (f:Nat) (listed:Array Bool) {κ:Kap} {M:Mem} {σ:St} {a:Act} {w:World},Rel N M0 B w0 κ M σ a w→Ht (Cn P) ops xs K f listed σ→wpAnyIn (FR ρ) 0 P .any ops Q f listed a w
 | 0,_,_,_,_,_,_,H,hW=>⟨hW.1,hK _ _ _ _ _ hW.2 H⟩
 | f + 1,listed,_,_,_,_,_,H,hW=>by
   refine ⟨fun h0=>hK _ _ _ _ _ (hW.1 h0) H,fun i hi=>?_⟩
   obtain ⟨x,hx,hw⟩:=hW.2 i hi
   obtain ⟨_,o,ho,_⟩:=mem_ready.1 hi
   have hl:=PE hL (by simpa using ho) hx
   have:=D1 hJC (ρ:=ρ) H hl hw (Q:=Q) (fun κ' M' σ' a' w' hk H'=>oY (ρ:=ρ) hJC hL hK f _ H' hk)
   unfold wpOpIn
   simp only [ho]
   split
   · rename_i hwd; rw [if_pos hwd] at this; exact this
   · rename_i hwd; rw [if_neg hwd] at this; exact ⟨fun _ _=>trivial,this⟩
theorem Rel.draw {κ:Kap} {M:Mem} {σ:St} {a:Act} {w:World} (H:Rel N M0 B w0 κ M σ a w) (n:Nat):Rel N M0 B w0 κ M σ a { w with drawn:=n }:=
 { dfr:=H.dfr,jst:=H.jst,pin:=H.pin,size:=H.size,regs:=H.regs,heap:=fun id ob h=>by
    have:=H.heap id ob h
    cases ob with
    | gh l=>
      simp only [aK] at this ⊢
      obtain ⟨k,h1,h2,h3⟩:=this
      exact ⟨k,h1,H.jst _ _ _ _ _ _ _ h2 ⟨rfl,rfl,rfl,Nat.le_refl _,fun _ _ _=>rfl,fun _ cur T z h=>⟨cur,T,z,h,rfl⟩⟩ (fun _ _=>rfl) (fun _ _ h=>h) H.snd,h3⟩
    | _=>exact this
   inj:=H.inj,snd:=H.snd,sep:=H.sep,sub:=H.sub,new:=H.new,base:=H.base,blw:=⟨H.blw.os,H.blw.tape,H.blw.output,H.blw.size,H.blw.block,H.blw.siz⟩ }
inductive LC (P:Program) (N:Nat) (ps:List Nat):Code→AC→Prop
 | skip:LC P N ps .skip .skip
 | reg {id ops xs ks}:LOs P N ps ops ops.toList xs→LC P N ps (.region id ops false) (.reg xs ks)
 | regD {id ops xs ys anc perm ks}:LOs P N ps ops ops.toList xs→tZ ops xs anc perm=true→gT xs perm=some ys→LC P N ps (.region id ops true) (.regD ys ks)
 | regE {id ops xs yss ks}:LOs P N ps ops ops.toList xs→tv xs=true→ops.size=xs.length→wD xs (yX ops ops.size (Array.replicate ops.size false))=some yss→LC P N ps (.region id ops true) (.regE yss ks)
 | regF {id ops xs yss anc ks}:LOs P N ps ops ops.toList xs→Ds ops anc=true→Gj ops xs anc ops.size (Array.replicate ops.size false)=some yss→LC P N ps (.region id ops true) (.regF yss ks)
 | scope {c rest a b l ks}:LC P N ps c a→findLabel c l=some rest→LC P N ps rest b→LC P N ps (.scope c) (.scope l ks a b)
 | label {l}:LC P N ps (.label l) (.label l)
 | goto {l}:LC P N ps (.goto l) (.goto l)
 | bad {x}:LC P N ps x .bad
 | seq {x y a b}:LC P N ps x a→LC P N ps y b→LC P N ps (.seq x y) (.seq a b)
 | cond {c c' x y a b t}:cO P t c=some c'→LC P N ps x a→LC P N ps y b→LC P N ps (.cond c x y) (.cond c' a b)
 | block {id x a}:LC P N ps x a→LC P N ps (.block id x) (.block id a)
 | loop {x a ks}:LC P N ps x a→LC P N ps (.loop x) (.loop ks a)
 | exit {id}:LC P N ps (.exit id) (.exit id)
 | ret:LC P N ps .ret .ret
def Ex.out:Ex→Exit
 | .norm=>.normal
 | .exit id=>.exit id
 | .goto l=>.goto l
 | .ret=>.ret
theorem ub {κ:Kap} {M:Mem} {σ σ':St} {a:Act} {w:World} (H:Rel N M0 B w0 κ M σ' a w) (ks:List Nat):Rel N M0 B w0 κ M (σ.cls σ' ks) a w:=H.forget _ fun t v h=>HQ h
theorem wC {r s:List (Nat × V)} (h:∀ t,lk s t=lk r t):∀ ks,pk s ks=pk r ks
 | []=>rfl
 | k::ks=>by simp only [pk,h k,wC h ks]
theorem OS {R:St→Prop} (ks:List Nat):Inv (fun σ'=>R (σ'.nrm ks)):=by
 intro σ1 τ he h1
 have:τ.nrm ks=σ1.nrm ks:=by
  simp only [St.nrm,he.1,wC he.2]
 show R (τ.nrm ks)
 rw [this]; exact h1
theorem Ej {p:Nat→Prop} (h:∃ n,p n):∃ n,p n∧∀ m,p m→n≤m:=by
 obtain ⟨n,hn⟩:=h
 induction n using Nat.strongRecOn with
 | _ n ih=>
   by_cases hm:∃ m,m < n∧p m
   · obtain ⟨m,h1,h2⟩:=hm
     exact ih m h1 h2
   · exact ⟨n,hn,fun m h=>by
      rcases Nat.lt_or_ge m n with h1 | h1
      · exact (hm ⟨m,h1,h⟩).elim
      · exact h1⟩
open Classical in
noncomputable def qL (p:Nat→Prop):Nat:=if h:∃ n,p n then (Ej h).choose else 0
theorem jJ {p:Nat→Prop} (h:∃ n,p n):p (qL p)∧∀ m,p m→qL p≤m:=by
 unfold qL
 rw [dif_pos h]
 exact (Ej h).choose_spec
theorem DI {b:Frame} {a:Act} {c:Code} {k:List Item} {cs:List Frame} {w:World}:step P (lone (b.atR a (.code (.scope c)::k)) cs w)=.next (lone (b.atR a (.code c::.inScope c::k)) cs w):=
 step_lone_go (by simp [stepG,stepG.exec,Frame.atR])
theorem pD {b:Frame} {a:Act} {c:Code} {k:List Item} {cs:List Frame} {w:World}:step P (lone (b.atR a (.inScope c::k)) cs w)=.next (lone (b.atR a k) cs w):=
 step_lone_go (by simp [stepG,stepG.exec,Frame.atR])
theorem s6 {F:Fence} {n:Nat} {Q:Exit→Act→World→Prop} {a:Act} {w:World} {c rest:Code} (l:Nat) (J:Act→World→Prop) (μ:Act→World→Nat) (hf:findLabel c l=some rest)
 (first:c.wpIn F n P (Exit.jump l J Q) a w)
 (pass:∀ a w,J a w→rest.wpIn F n P (Exit.jump l (fun a' w'=>J a' w'∧μ a' w' < μ a w) Q) a w):(Code.scope c).wpIn F n P Q a w:=by
 intro b k cs hro hb hr
 have hg:gotoIn l (.inScope c::k)=some (.code rest::.inScope c::k):=by simp [gotoIn,hf]
 have hS:∀ {I:Machine→Prop} {m:Machine} {e:Exit} {a₁:Act} {w₁:World},(∀ l',e≠.goto l')→e≠.normal→ArrivesIn I P m b (.inScope c::k) cs e a₁ w₁→ArrivesIn I P m b k cs e a₁ w₁:=by
  intro I m e a₁ w₁ hng hnn harr
  cases e with
  | normal=>exact absurd rfl hnn
  | exit id=>exact ⟨fun k' hk=>harr.1 k' (by simp [exitTo,hk]),fun hr hk=>harr.2 hr (by simp [exitTo,hk])⟩
  | goto l'=>exact absurd rfl (hng l')
  | ret=>exact harr
  | panic ch=>exact harr
  | outgrown=>exact harr
 have key:∀ n a w,μ a w=n→J a w→∃ e a' w',Q e a' w'∧ArrivesIn (Machine.fenced P F) P (lone (b.atR a (.code rest::.inScope c::k)) cs w) b k cs e a' w':=by
  intro n
  induction n using Nat.strongRecOn with
  | _ n ih=>
    intro a w hn hJ
    obtain ⟨e,a₁,w₁,hq,harr⟩:=pass a w hJ b (.inScope c::k) cs hro hb hr
    cases e with
    | normal=>exact ⟨.normal,a₁,w₁,hq,StepsIn.trans harr (.one (fenced_calm hb hr rfl) pD)⟩
    | exit id=>exact ⟨.exit id,a₁,w₁,hq,hS (fun _ h=>by cases h) (fun h=>by cases h) harr⟩
    | goto l'=>
      obtain ⟨rfl,hJ',hlt⟩:=hq
      obtain ⟨e₂,a₂,w₂,hq₂,harr₂⟩:=ih _ (by omega) a₁ w₁ rfl hJ'
      exact ⟨e₂,a₂,w₂,hq₂,.of_steps (harr.1 _ hg) harr₂⟩
    | ret=>exact ⟨_,a₁,w₁,hq,hS (fun _ h=>by cases h) (fun h=>by cases h) harr⟩
    | panic ch=>exact ⟨_,a₁,w₁,hq,hS (fun _ h=>by cases h) (fun h=>by cases h) harr⟩
    | outgrown=>exact ⟨_,a₁,w₁,hq,hS (fun _ h=>by cases h) (fun h=>by cases h) harr⟩
 have h0:StepsIn (Machine.fenced P F) P (lone (b.atR a (.code (.scope c)::k)) cs w) (lone (b.atR a (.code c::.inScope c::k)) cs w):=.one (fenced_calm hb hr rfl) DI
 obtain ⟨e,a₁,w₁,hq,harr⟩:=first b (.inScope c::k) cs hro hb hr
 cases e with
 | normal=>exact ⟨.normal,a₁,w₁,hq,StepsIn.trans h0 (StepsIn.trans harr (.one (fenced_calm hb hr rfl) pD))⟩
 | exit id=>exact ⟨.exit id,a₁,w₁,hq,.of_steps h0 (hS (fun _ h=>by cases h) (fun h=>by cases h) harr)⟩
 | goto l'=>
   obtain ⟨rfl,hJ'⟩:=hq
   obtain ⟨e₂,a₂,w₂,hq₂,harr₂⟩:=key _ a₁ w₁ rfl hJ'
   exact ⟨e₂,a₂,w₂,hq₂,.of_steps (StepsIn.trans h0 (harr.1 _ hg)) harr₂⟩
 | ret=>exact ⟨_,a₁,w₁,hq,.of_steps h0 (hS (fun _ h=>by cases h) (fun h=>by cases h) harr)⟩
 | panic ch=>exact ⟨_,a₁,w₁,hq,.of_steps h0 (hS (fun _ h=>by cases h) (fun h=>by cases h) harr)⟩
 | outgrown=>exact ⟨_,a₁,w₁,hq,.of_steps h0 (hS (fun _ h=>by cases h) (fun h=>by cases h) harr)⟩
theorem vc {F:Fence} {n:Nat} {Q:Exit→Act→World→Prop} {a:Act} {w:World} {c:Code} (I:Nat→Act→World→Prop) (n₀:Nat) (h₀:I n₀ a w)
 (round:∀ k a w,I k a w→c.wpIn F n P (Exit.then (fun a' w'=>∃ k',k' < k∧I k' a' w') Q) a w):(Code.loop c).wpIn F n P Q a w:=by
 refine wpIn_loop (fun a w=>∃ k,I k a w) (fun a w=>qL (fun k=>I k a w)) ⟨n₀,h₀⟩ ?_
 intro a w hI
 refine wpIn_mono (round _ a w (jJ hI).1) ?_
 intro e a' w' hq
 cases e with
 | normal=>
   obtain ⟨k',hlt,hI'⟩:=hq
   exact show (∃ k,I k a' w')∧qL (fun k=>I k a' w') < qL (fun k=>I k a w) from ⟨⟨k',hI'⟩,Nat.lt_of_le_of_lt ((jJ ⟨k',hI'⟩).2 k' hI') hlt⟩
 | exit id=>exact hq
 | goto l=>exact hq
 | ret=>exact hq
 | panic ch=>exact hq
 | outgrown=>exact hq
theorem Dv (hm:P.follows .mixedOrders=true) (hJC:qq P M0 B) {ρ:Option Nat} {c:Code} {x:AC} (h:LC P N B.ps c x):∀ {Q:Exit→Act→World→Prop} {R:Ex→St→Prop},
 (∀ e κ M σ a w,R e σ→Rel N M0 B w0 κ M σ a w→Q e.out a w)→∀ {κ:Kap} {M:Mem} {σ:St} {a:Act} {w:World},Rel N M0 B w0 κ M σ a w→W (Cn P) x R σ→c.wpIn (FR ρ) 0 P Q a w:=by
 induction h with
 | skip=>intro Q R hQ κ M σ a w H hW; exact wpIn_skip (hQ .norm _ _ _ _ _ hW H)
 | reg hL=>
   intro Q R hQ κ M σ a w H hW
   refine wpIn_region_list (AJ hJC (fun κ' M' σ' a' w' hk H'=>?_) hL H hW)
   exact hQ .norm _ _ _ _ _ hk (ub H' _)
 | @regD id ops xs ys anc perm ks hL hd hp=>
   intro Q R hQ κ M σ a w H hW
   refine wpIn_region_any hm ?_
   have hinv:Inv (fun σ'=>R .norm (σ.cls σ' ks)):=by
    intro σ1 τ he h1
    have:σ.cls τ ks=σ.cls σ1 ks:=by
     simp only [St.cls,he.1,wC he.2]
    rw [this]; exact h1
   refine oY hJC hL (fun κ' M' σ' a' w' hk H'=>?_) _ _ (H.draw _) (BD _ _ (E5 hd hp hinv hW))
   exact hQ .norm _ _ _ _ _ hk (ub H' _)
 | @regE id ops xs yss ks hL hn hsz hp=>
   intro Q R hQ κ M σ a w H hW
   refine wpIn_region_any hm ?_
   have key:∀ (ps:List (List Nat)) (yss:List (List AOp)),wD xs ps=some yss→FA (Cn P) yss (fun σ'=>R .norm (σ.cls σ' ks)) σ→∀ p∈ps,∃ ys,gT xs p=some ys∧s7 (Cn P) ys (fun σ'=>R .norm (σ.cls σ' ks)) σ:=by
    intro ps
    induction ps with
    | nil=>intro _ _ _ p hp; cases hp
    | cons q ps ih=>
      intro yss h1 h2 p hp
      simp only [wD] at h1
      split at h1
      · rename_i y ys hy hys
        cases h1
        rcases List.mem_cons.1 hp with rfl | hp
        · exact ⟨y,hy,h2.1⟩
        · exact ih ys hys h2.2 p hp
      · cases h1
   refine oY hJC hL (fun κ' M' σ' a' w' hk H'=>?_) _ _ (H.draw _) (Jm hn hsz _ _ σ (key _ _ hp hW))
   exact hQ .norm _ _ _ _ _ hk (ub H' _)
 | @regF id ops xs yss anc ks hL hanc hp=>
   intro Q R hQ κ M σ a w H hW
   refine wpIn_region_any hm ?_
   refine oY hJC hL (fun κ' M' σ' a' w' hk H'=>?_) _ _ (H.draw _) (BD _ _ (Jl (Ho hanc) (OS (R:=R .norm) ks) _ _ σ _ rn.start hp hW))
   obtain ⟨κ2,H2⟩:=H'.nrm ks
   exact hQ .norm _ _ _ _ _ hk H2
 | @scope c rest x y l ks _ hf _ iha ihb=>
   intro Q R hQ κ M σ a w H hW
   obtain ⟨I,h1,h2⟩:=hW
   have G:∀ a w,(∃ n κ M τ,I n τ∧Rel N M0 B w0 κ M τ a w)→∃ n,∃ κ M τ,I n τ∧Rel N M0 B w0 κ M τ a w:=fun _ _ h=>h
   refine s6 l (fun a w=>∃ n κ M τ,I n τ∧Rel N M0 B w0 κ M τ a w) (fun a w=>qL fun n=>∃ κ M τ,I n τ∧Rel N M0 B w0 κ M τ a w) hf (iha ?_ H h1) ?_
   · intro e κ M σ a w hR H
     cases e with
     | norm=>exact hQ .norm _ _ _ _ _ hR H
     | exit id=>exact hQ (.exit id) _ _ _ _ _ hR H
     | ret=>exact hQ .ret _ _ _ _ _ hR H
     | goto l'=>
       obtain ⟨rfl,n,ms,τ'',g1,g2⟩:=hR
       obtain ⟨κ',M',H'⟩:=H.mats g1
       obtain ⟨κ2,H2⟩:=H'.nrm ks
       exact ⟨rfl,n,_,_,_,g2,H2⟩
   · intro a w hJ
     obtain ⟨⟨κ,M,τ,hI,H⟩,hmin⟩:=jJ hJ
     refine ihb ?_ H (h2 _ τ hI)
     intro e κ M σ a w hR H
     cases e with
     | norm=>exact hQ .norm _ _ _ _ _ hR H
     | exit id=>exact hQ (.exit id) _ _ _ _ _ hR H
     | ret=>exact hQ .ret _ _ _ _ _ hR H
     | goto l'=>
       obtain ⟨rfl,m,ms,τ'',g1,g2,g3⟩:=hR
       obtain ⟨κ',M',H'⟩:=H.mats g1
       obtain ⟨κ2,H2⟩:=H'.nrm ks
       have hJ':∃ n,∃ κ M τ,I n τ∧Rel N M0 B w0 κ M τ a w:=⟨m,_,_,_,g2,H2⟩
       exact ⟨rfl,hJ',Nat.lt_of_le_of_lt ((jJ hJ').2 m ⟨_,_,_,g2,H2⟩) g3⟩
 | label=>intro Q R hQ κ M σ a w H hW; exact wpIn_label (hQ .norm _ _ _ _ _ hW H)
 | goto=>intro Q R hQ κ M σ a w H hW; exact wpIn_goto (hQ (.goto _) _ _ _ _ _ hW H)
 | bad=>
   intro Q R hQ κ M σ a w H hW
   exact hW.elim
 | seq _ _ iha ihb=>
   intro Q R hQ κ M σ a w H hW
   refine wpIn_seq (iha ?_ H hW)
   intro e κ M σ a w hR H
   cases e with
   | norm=>exact ihb hQ H hR
   | exit id=>exact hQ (.exit id) _ _ _ _ _ hR H
   | goto l=>exact hQ (.goto l) _ _ _ _ _ hR H
   | ret=>exact hQ .ret _ _ _ _ _ hR H
 | cond hc _ _ iha ihb=>
   intro Q R hQ κ M σ a w H hW
   simp only [W] at hW
   split at hW
   · rename_i t ht
     have hv:=H.op hc ht
     exact wpIn_cond_split (f6 hv) (fun h=>iha hQ H (hW.1 h)) (fun h=>ihb hQ H (hW.2 h))
   · exact hW.elim
 | @block id x a _ ih=>
   intro Q R hQ κ M σ a w H hW
   refine wpIn_block (ih ?_ H hW)
   intro e κ M σ a w hR H
   cases e with
   | norm=>exact hQ .norm _ _ _ _ _ hR H
   | exit id'=>
     simp only [Ex.inBlock] at hR
     simp only [Ex.out,Exit.inBlock]
     split
     · rename_i he; rw [if_pos he] at hR; exact hQ .norm _ _ _ _ _ hR H
     · rename_i he; rw [if_neg he] at hR; exact hQ (.exit id') _ _ _ _ _ hR H
   | goto l=>exact hQ (.goto l) _ _ _ _ _ hR H
   | ret=>exact hQ .ret _ _ _ _ _ hR H
 | @loop x a ks _ ih=>
   intro Q R hQ κ M σ a w H hW
   obtain ⟨I,⟨n,ms,σ',hms,hI⟩,hr⟩:=hW
   obtain ⟨κ',M',H'⟩:=H.mats hms
   obtain ⟨κ2,H2⟩:=H'.nrm ks
   refine vc (fun n a w=>∃ κ M τ,I n τ∧Rel N M0 B w0 κ M τ a w) n ⟨_,_,_,hI,H2⟩ ?_
   rintro n a w ⟨κ,M,τ,hI,H⟩
   refine ih ?_ H (hr n τ hI)
   intro e κ M σ a w hR H
   cases e with
   | norm=>
     obtain ⟨m,ms,τ',h1,h2,h3⟩:=hR
     obtain ⟨κ',M',H'⟩:=H.mats h1
     obtain ⟨κ2,H2⟩:=H'.nrm ks
     exact ⟨m,h3,_,_,_,h2,H2⟩
   | exit id=>exact hQ (.exit id) _ _ _ _ _ hR H
   | goto l=>exact hQ (.goto l) _ _ _ _ _ hR H
   | ret=>exact hQ .ret _ _ _ _ _ hR H
 | exit=>intro Q R hQ κ M σ a w H hW; exact wpIn_exit (hQ (.exit _) _ _ _ _ _ hW H)
 | ret=>intro Q R hQ κ M σ a w H hW; exact wpIn_ret (hQ .ret _ _ _ _ _ hW H)
end
def RG (P:Program) (op:BinOp) (xt:TypeId) (u v:AO):Act':=
 match P.underlying xt,op with
 | some .bool,.eql=>.beq false u v
 | some .bool,.neq=>.beq true u v
 | some (.struct _),.eql=>match ktT P xt with
   | some kt=>if kt.agg=true then .aeq false kt u v else .bin op u v
   | none=>.bin op u v
 | some (.struct _),.neq=>match ktT P xt with
   | some kt=>if kt.agg=true then .aeq true kt u v else .bin op u v
   | none=>.bin op u v
 | some (.array _ _),.eql=>match ktT P xt with
   | some kt=>if kt.agg=true then .aeq false kt u v else .bin op u v
   | none=>.bin op u v
 | some (.array _ _),.neq=>match ktT P xt with
   | some kt=>if kt.agg=true then .aeq true kt u v else .bin op u v
   | none=>.bin op u v
 | _,_=>.bin op u v
def Aq (P:Program) (t:TypeId):Option (Nat × Bool):=
 match dW P t,va P t with
 | some n,some g=>if g=true∨n=1 then some (n,g) else none
 | _,_=>none
def If (P:Program) (t:TypeId) (i:Nat):Option (Nat × TypeId):=
 match P.underlying t with
 | some (.struct fs)=>match fs[i]? with
   | some f=>some (f.offset,f.type)
   | none=>none
 | _=>none
def MR (P:Program) (c:Call):Option Act':=
 match c with
 | { callee:=.builtin .len,args:=args,argTypes:=ts }=>match args.toList,ts.toList with
   | [x],[t]=>match cO P t x,P.underlying t with
     | some u,some .string=>some (.lens u)
     | some u,some (.slice _)=>some (.lenq u)
     | _,_=>none
   | _,_=>none
 | { callee:=.builtin .append,args:=args,argTypes:=ts }=>match args.toList,ts.toList with
   | [x,y],[t,t']=>if t=t' then (match P.underlying t with
     | some (.slice e)=>match P.info? e with
       | some i=>match i.zero,cO P t x,cO P t y with
         | some z,some x',some y'=>if 0 < i.bytes∧z.cells.size=i.size∧0 < i.size then some (.app x' y' e i.size i.bytes) else none
         | _,_,_=>none
       | none=>none
     | _=>none) else none
   | _,_=>none
 | { callee:=.builtin .max,args:=args,argTypes:=ts }=>match args.toList,ts.toList with
   | [x,y],[t,t']=>match cO P t x,cO P t' y with
     | some u,some v=>some (.mm true u v)
     | _,_=>none
   | _,_=>none
 | { callee:=.builtin .min,args:=args,argTypes:=ts }=>match args.toList,ts.toList with
   | [x,y],[t,t']=>match cO P t x,cO P t' y with
     | some u,some v=>some (.mm false u v)
     | _,_=>none
   | _,_=>none
 | { callee:=.invoke r name,args:=args,argTypes:=ts }=>match cO P 0 r,cOs P ts.toList args.toList with
   | some x,some xs=>some (.inv (Rs P name) x xs)
   | _,_=>none
 | { callee:=.value (.func f),args:=args,argTypes:=ts }=>match cOs P ts.toList args.toList with
   | some xs=>some (.call f xs)
   | none=>none
 | { callee:=.value (.tmp g),args:=args,argTypes:=ts }=>match cOs P ts.toList args.toList with
   | some xs=>some (.callv (.t g) xs)
   | none=>none
 | _=>none
def Le:Operand→Operand→Bool
 | .tmp a,.tmp b=>decide (a=b)
 | .const (.int k n),.const (.int k' n')=>decide (k=k'∧n=n')
 | _,_=>false
theorem FSk {x y:Operand} (h:Le x y=true):x=y:=by
 unfold Le at h
 split at h
 · simp at h; rw [h]
 · simp at h; rw [h.1,h.2]
 · cases h
def RF (P:Program) (op:BinOp) (xt:TypeId) (y:Operand):Option (Nat × Bool):=match y,op with
 | .const c,.eql=>match BY P xt c with
   | some k=>some (k,false)
   | none=>none
 | .const c,.neq=>match BY P xt c with
   | some k=>some (k,true)
   | none=>none
 | _,_=>none
theorem JV {P:Program} {op:BinOp} {xt:TypeId} {y:Operand} {k:Nat} {neg:Bool} (h:RF P op xt y=some (k,neg)):∃ c,y=.const c∧BY P xt c=some k∧((op=.eql∧neg=false)∨(op=.neq∧neg=true)):=by
 unfold RF at h
 split at h
 · split at h
   · cases h; exact ⟨_,rfl,‹_›,.inl ⟨rfl,rfl⟩⟩
   · cases h
 · split at h
   · cases h; exact ⟨_,rfl,‹_›,.inr ⟨rfl,rfl⟩⟩
   · cases h
 · cases h
def cU (P:Program) (ty:TypeId):Op→Option Act'
 | .move x=>(cO P ty x).map .mov
 | .assign x=>(cO P ty x).map .mov
 | .pick c a b=>match cO P ty c,cO P ty a,cO P ty b with
   | some c',some a',some b'=>some (.pick c' a' b')
   | _,_,_=>none
 | .field t x i=>match cO P t x,If P t i with
   | some y,some (off,ft)=>match Aq P ft with
     | some (n,g)=>some (.fld y off n g)
     | none=>none
   | _,_=>none
 | .fieldAddr t x i=>match cO P 0 x,If P t i with
   | some y,some (off,ft)=>match dW P ft with
     | some n=>if n≠0 then some (.fa y off) else none
     | none=>none
   | _,_=>none
 | .indexAddr t x i=>match cO P 0 i,P.underlying t with
   | some j,some (.slice e)=>match cO P t x,dW P e with
     | some y,some n=>some (.ia y j n)
     | _,_=>none
   | some j,some (.array m e)=>match cO P 0 x,dW P e with
     | some y,some n=>some (.iaa y j m n)
     | _,_=>none
   | _,_=>none
 | .load t x=>match cO P 0 x,Aq P t with
   | some y,some (n,g)=>some (.ld y n g)
   | _,_=>none
 | .index t x i=>match cO P t x,cO P 0 i,P.underlying t with
   | some y,some j,some .string=>some (.ixs y j)
   | some y,some j,some (.array m e)=>match Aq P e with
     | some (n,g)=>some (.ixa y j m n g)
     | none=>none
   | _,_,_=>none
 | .binOp op xt x y yt=>match cO P xt x,RF P op xt y with
   | some u,some (k,neg)=>some (.nlq k neg u)
   | some u,none=>match cO P yt y with
     | some v=>some (RG P op xt u v)
     | none=>none
   | none,_=>none
 | .unOp op t x=>(cO P t x).map (.un op)
 | .convert s d x=>match cO P s x,P.underlying s,P.underlying d with
   | some u,some (.slice e),some .string=>match P.underlying e with
     | some (.int .u8)=>some (.b2s u)
     | _=>none
   | some u,some _,some (.int k)=>some (.cii k u)
   | some u,some (.int _),some .string=>some (.r2s u)
   | some u,some .string,some (.slice e)=>match P.underlying e with
     | some (.int .u8)=>some (.s2b u)
     | _=>none
   | _,_,_=>none
 | .slice t x lo hi none=>match cO P t x,cOo P 0 lo,cOo P 0 hi with
   | some u,some lo',some hi'=>match P.underlying t with
     | some .string=>some (.sls u lo' hi')
     | some (.slice e)=>match dW P e with
       | some n=>some (.slq u lo' hi' n)
       | none=>none
     | _=>none
   | _,_,_=>none
 | .extract x i=>(cO P 0 x).map fun u=>.ext u i
 | .build t parts=>match P.built t [],P.info? t with
   | some _,some i=>match i.zero with
     | some (.agg z)=>match EM P 20 t with
       | some zc=>match cSs P zc z.toList,uc P t parts.toList with
         | some zs,some ps=>some (.bld zs ps)
         | _,_=>none
       | none=>none
     | _=>none
   | _,_=>none
 | .makeFunc f a b=>match cOs P (List.replicate a.size 0) a.toList,cOs P (List.replicate b.size 0) b.toList with
   | some a',some b'=>some (.mkf f a' b')
   | _,_=>none
 | .nilCheck x=>(cO P 0 x).map .nlc
 | .alloc e=>match P.info? e with
   | some i=>match i.zero with
     | some z=>match cV P e z with
       | some v=>if nt v=true then some (.alc (cl v)) else none
       | none=>none
     | none=>none
   | none=>none
 | .box e x=>(cO P e x).map .box
 | .store t p x=>match cO P 0 p,cO P t x,dW P t with
   | some p',some x',some n=>some (.st n p' x')
   | _,_,_=>none
 | .buildSlice t len parts=>match P.underlying t with
   | some (.slice e)=>match P.info? e with
     | some i=>match i.zero with
       | some z=>match cOs P (List.replicate len e) (parts.toList.map (·.2)) with
         | some xs=>if 0 < i.size∧z.cells.size=i.size∧len * i.size≤16777216∧parts.toList.map (·.1)=List.range len then some (.lit e i.size xs) else none
         | none=>none
       | none=>none
     | none=>none
   | _=>none
 | .makeSlice t l l'=>if Le l l'=true then (match P.underlying t with
    | some (.slice e)=>match P.info? e with
      | some i=>match i.zero with
        | some (.slice none 0 0)=>match P.underlying e with
          | some (.slice e2)=>match P.info? e2,cO P 0 l with
            | some i2,some u=>if 0 < i.bytes∧i.size=1∧0 < i2.size then some (.mkm e i.bytes e2 i2.size u) else none
            | _,_=>none
          | _=>none
        | some z=>match cV P e z,cO P 0 l with
          | some v,some u=>match pur [] v with
            | some v'=>if nt v=true∧0 < i.bytes∧0 < i.size∧z.cells.size=i.size then some (.mks e i.size i.bytes v' u) else none
            | none=>none
          | _,_=>none
        | none=>none
      | none=>none
    | _=>none) else (match l with
      | .const (.int _ 0)=>(match P.underlying t with
        | some (.slice e)=>match P.info? e with
          | some i=>match i.zero,cO P 0 l' with
            | some _,some u=>if 0 < i.bytes∧0 < i.size then some (.mk0 e i.size i.bytes u) else none
            | _,_=>none
          | none=>none
        | _=>none)
      | _=>none)
 | .makeInterface t x=>match cO P t x,P.underlying t with
   | some u,some ds=>match ds with
     | .interface _=>none
     | _=>some (.mki t u)
   | _,_=>none
 | .range t x=>match cO P t x,P.underlying t with
   | some u,some .string=>some (.rgs u)
   | _,_=>none
 | .next x true=>(cO P 0 x).map .nxs
 | .makeMap t none=>match P.underlying t with
   | some (.map K _)=>match ktT P K with
     | some kt=>some (.mkp kt)
     | none=>none
   | _=>none
 | .lookup t x k okk=>match P.underlying t with
   | some (.map K E)=>match ktT P K,cO P t x,cO P K k,P.info? E with
     | some kt,some u,some v,some i=>match i.zero with
       | some z=>match cV P E z with
         | some zv=>some (.lkp kt zv okk u v)
         | none=>none
       | none=>none
     | _,_,_,_=>none
   | _=>none
 | .mapUpdate t x k v=>match P.underlying t with
   | some (.map K E)=>match ktT P K,cO P t x,cO P K k,cO P E v with
     | some kt,some u,some b,some c=>some (.mup kt u b c)
     | _,_,_,_=>none
   | _=>none
 | .insert t x k v=>match P.underlying t with
   | some (.map K E)=>match ktT P K,cO P t x,cO P K k,cO P E v with
     | some kt,some u,some b,some c=>some (.mup kt u b c)
     | _,_,_,_=>none
   | _=>none
 | .call c=>MR P c
 | _=>none
theorem kU {P:Program} {t:TypeId} {n:Nat} {g:Bool} (h:Aq P t=some (n,g)):dW P t=some n∧va P t=some g∧(g=false→n=1):=by
 unfold Aq at h
 split at h
 · rename_i n' g' h1 h2
   split at h
   · rename_i hc
     cases h
     exact ⟨h1,h2,fun hg=>by rcases hc with h | h; · rw [hg] at h; cases h
                             · exact h⟩
   · cases h
 · cases h
theorem yn {P:Program} {t:TypeId} {i off:Nat} {ft:TypeId} (h:If P t i=some (off,ft)):∃ fs f,P.underlying t=some (.struct fs)∧fs[i]?=some f∧off=f.offset∧ft=f.type:=by
 unfold If at h
 split at h
 · rename_i fs h1
   split at h
   · rename_i f h2; cases h; exact ⟨fs,f,h1,h2,rfl,rfl⟩
   · cases h
 · cases h
theorem JW {P:Program} {ty xt yt:TypeId} {op:BinOp} {x y:Operand} {u v:AO} (hu:cO P xt x=some u) (hv:cO P yt y=some v):LV P ty (.binOp op xt x y yt) (RG P op xt u v):=by
 unfold RG
 split
 · exact .beq ‹_› hu hv
 · exact .bne ‹_› hu hv
 all_goals
  first
   | exact .bin hu hv
   | (split
      · split
        · first | exact .aeq ‹_› ‹_› hu hv | exact .ane ‹_› ‹_› hu hv
        · exact .bin hu hv
      · exact .bin hu hv)
theorem Hg {P:Program} {ty:TypeId} {c:Call} {x:Act'} (h:MR P c=some x):LV P ty (.call c) x∨LE P ty (.call c) x:=by
 unfold MR at h
 split at h
 · rename_i args ts
   split at h
   · rename_i x t hx ht
     have e1:args=#[x]:=by apply Array.ext'; simpa using hx
     have e2:ts=#[t]:=by apply Array.ext'; simpa using ht
     subst e1; subst e2
     split at h
     · cases h; exact .inl (.lens ‹_› ‹_›)
     · cases h; exact .inl (.lenq ‹_› ‹_›)
     · cases h
   · cases h
 · rename_i args ts
   split at h
   · rename_i x y t t' hx ht
     have e1:args=#[x,y]:=by apply Array.ext'; simpa using hx
     have e2:ts=#[t,t']:=by apply Array.ext'; simpa using ht
     subst e1; subst e2
     split at h
     · rename_i ett
       subst ett
       split at h
       · split at h
         · split at h
           · split at h
             · rename_i hc; cases h; exact .inr (.app ‹_› ‹_› ‹_› rfl rfl hc.1 hc.2.1 hc.2.2 ‹_› ‹_›)
             · cases h
           · cases h
         · cases h
       · cases h
     · cases h
   · cases h
 · rename_i args ts
   split at h
   · rename_i x y t t' hx ht
     have e1:args=#[x,y]:=by apply Array.ext'; simpa using hx
     have e2:ts=#[t,t']:=by apply Array.ext'; simpa using ht
     subst e1; subst e2
     split at h
     · cases h; exact .inl (.mmx ‹_› ‹_›)
     · cases h
   · cases h
 · rename_i args ts
   split at h
   · rename_i x y t t' hx ht
     have e1:args=#[x,y]:=by apply Array.ext'; simpa using hx
     have e2:ts=#[t,t']:=by apply Array.ext'; simpa using ht
     subst e1; subst e2
     split at h
     · cases h; exact .inl (.mmn ‹_› ‹_›)
     · cases h
   · cases h
 · split at h
   · cases h; exact .inr (.inv ‹_› rfl ‹_›)
   · cases h
 · split at h
   · cases h; exact .inr (.call ‹_›)
   · cases h
 · split at h
   · cases h; exact .inr (.callv ‹_›)
   · cases h
 · cases h
theorem JX {P:Program} {ty:TypeId} {o:Op} {x:Act'} (h:cU P ty o=some x):LV P ty o x∨LE P ty o x:=by
 cases o with
 | move x=>simp only [cU,Option.map_eq_some_iff] at h; obtain ⟨y,hy,rfl⟩:=h; exact .inl (.move hy)
 | assign x=>simp only [cU,Option.map_eq_some_iff] at h; obtain ⟨y,hy,rfl⟩:=h; exact .inl (.assign hy)
 | pick c a b=>
   simp only [cU] at h
   split at h
   · cases h; exact .inl (.pick ‹_› ‹_› ‹_›)
   · cases h
 | field t x i=>
   simp only [cU] at h
   split at h
   · rename_i y off ft hy hs
     obtain ⟨fs,f,h1,h2,rfl,rfl⟩:=yn hs
     split at h
     · rename_i n g hn
       obtain ⟨k1,k2,k3⟩:=kU hn
       cases h; exact .inl (.field hy h1 h2 k1 k2 k3)
     · cases h
   · cases h
 | fieldAddr t x i=>
   simp only [cU] at h
   split at h
   · rename_i y off ft hy hs
     obtain ⟨fs,f,h1,h2,rfl,rfl⟩:=yn hs
     split at h
     · split at h
       · cases h; exact .inl (.fieldAddr hy h1 h2 ‹_› ‹_›)
       · cases h
     · cases h
   · cases h
 | indexAddr t x i=>
   simp only [cU] at h
   split at h
   · split at h
     · cases h; exact .inl (.indexAddr ‹_› ‹_› ‹_› ‹_›)
     · cases h
   · split at h
     · cases h; exact .inl (.indexAddrA ‹_› ‹_› ‹_› ‹_›)
     · cases h
   · cases h
 | load t x=>
   simp only [cU] at h
   split at h
   · rename_i y n g hy hs
     obtain ⟨k1,k2,k3⟩:=kU hs
     cases h; exact .inl (.load hy k1 k2 k3)
   · cases h
 | index t x i=>
   simp only [cU] at h
   split at h
   · cases h; exact .inl (.indexS ‹_› ‹_› ‹_›)
   · split at h
     · rename_i n g hs
       obtain ⟨k1,k2,k3⟩:=kU hs
       cases h; exact .inl (.indexA ‹_› ‹_› ‹_› k1 k2 k3)
     · cases h
   · cases h
 | binOp op xt x y yt=>
   simp only [cU] at h
   split at h
   · rename_i hn
     cases h
     obtain ⟨c,rfl,h1,h2⟩:=JV hn
     exact .inl (.nlq h1 h2 ‹_›)
   · split at h
     · cases h; exact .inl (JW ‹_› ‹_›)
     · cases h
   · cases h
 | unOp op t x=>simp only [cU,Option.map_eq_some_iff] at h; obtain ⟨y,hy,rfl⟩:=h; exact .inl (.un hy)
 | convert s d x=>
   simp only [cU] at h
   split at h
   · split at h
     · cases h; exact .inr (.b2s ‹_› ‹_› ‹_› ‹_›)
     · cases h
   · cases h; exact .inl (.cii ‹_› ‹_› ‹_›)
   · cases h; exact .inl (.r2s ‹_› ‹_› ‹_›)
   · split at h
     · cases h; exact .inr (.s2b ‹_› ‹_› ‹_› ‹_›)
     · cases h
   · cases h
 | slice t x lo hi m=>
   cases m with
   | some m=>simp only [cU] at h; cases h
   | none=>
     simp only [cU] at h
     split at h
     · split at h
       · cases h; exact .inl (.sls ‹_› ‹_› ‹_› ‹_›)
       · split at h
         · cases h; exact .inl (.slq ‹_› ‹_› ‹_› ‹_› ‹_›)
         · cases h
       · cases h
     · cases h
 | extract x i=>simp only [cU,Option.map_eq_some_iff] at h; obtain ⟨y,hy,rfl⟩:=h; exact .inl (.ext hy)
 | build t parts=>
   simp only [cU] at h
   split at h
   · split at h
     · split at h
       · split at h
         · cases h; exact .inl (.bld ‹_› ‹_› ‹_› ‹_› ‹_› ‹_›)
         · cases h
       · cases h
     · cases h
   · cases h
 | makeFunc f a b=>
   simp only [cU] at h
   split at h
   · cases h; exact .inl (.mkf ‹_› ‹_›)
   · cases h
 | nilCheck x=>simp only [cU,Option.map_eq_some_iff] at h; obtain ⟨y,hy,rfl⟩:=h; exact .inl (.nlc hy)
 | alloc e=>
   simp only [cU] at h
   split at h
   · split at h
     · split at h
       · split at h
         · cases h; exact .inr (.alloc ‹_› ‹_› ‹_› ‹_›)
         · cases h
       · cases h
     · cases h
   · cases h
 | box e x=>simp only [cU,Option.map_eq_some_iff] at h; obtain ⟨y,hy,rfl⟩:=h; exact .inr (.box hy)
 | store t p x=>
   simp only [cU] at h
   split at h
   · cases h; exact .inr (.store ‹_› ‹_› ‹_›)
   · cases h
 | buildSlice t len parts=>
   simp only [cU] at h
   split at h
   · split at h
     · split at h
       · split at h
         · split at h
           · rename_i hc; cases h; exact .inr (.lit ‹_› ‹_› rfl hc.1 ‹_› hc.2.1 hc.2.2.1 hc.2.2.2 ‹_›)
           · cases h
         · cases h
       · cases h
     · cases h
   · cases h
 | makeSlice t l l'=>
   simp only [cU] at h
   split at h
   · rename_i hab
     have hab:=FSk hab
     subst hab
     split at h
     · split at h
       · split at h
         · split at h
           · split at h
             · split at h
               · rename_i hc; cases h; exact .inr (.mkm ‹_› ‹_› ‹_› hc.2.1 rfl hc.1 ‹_› ‹_› rfl hc.2.2 ‹_›)
               · cases h
             · cases h
           · cases h
         · split at h
           · split at h
             · split at h
               · rename_i hc; cases h; exact .inr (.mks ‹_› ‹_› ‹_› ‹_› hc.1 ‹_› rfl rfl hc.2.1 hc.2.2.1 ‹_› hc.2.2.2)
               · cases h
             · cases h
           · cases h
         · cases h
       · cases h
     · cases h
   · split at h
     · split at h
       · split at h
         · split at h
           · split at h
             · rename_i hc; cases h; exact .inr (.mk0 ‹_› ‹_› ‹_› rfl rfl hc.1 hc.2 ‹_›)
             · cases h
           · cases h
         · cases h
       · cases h
     · cases h
 | makeInterface t x=>
   simp only [cU] at h
   split at h
   · rename_i u ds hu hds
     split at h
     · cases h
     · rename_i hne
       cases h; exact .inl (.mki hu hds (fun ms e=>hne ms e))
   · cases h
 | range t x=>
   simp only [cU] at h
   split at h
   · cases h; exact .inr (.rgs ‹_› ‹_›)
   · cases h
 | next x b=>
   cases b with
   | true=>
     simp only [cU,Option.map_eq_some_iff] at h
     obtain ⟨u,hu,rfl⟩:=h
     exact .inr (.nxs hu)
   | false=>simp only [cU] at h; cases h
 | makeMap t r=>
   cases r with
   | some r=>simp only [cU] at h; cases h
   | none=>
     simp only [cU] at h
     split at h
     · split at h
       · cases h; exact .inr (.mkp ‹_› ‹_›)
       · cases h
     · cases h
 | lookup t x k okk=>
   simp only [cU] at h
   split at h
   · split at h
     · split at h
       · split at h
         · cases h; exact .inl (.lkp ‹_› ‹_› ‹_› ‹_› ‹_› ‹_› ‹_›)
         · cases h
       · cases h
     · cases h
   · cases h
 | mapUpdate t x k v=>
   simp only [cU] at h
   split at h
   · split at h
     · cases h; exact .inr (.mup ‹_› ‹_› ‹_› ‹_› ‹_›)
     · cases h
   · cases h
 | insert t x k v=>
   simp only [cU] at h
   split at h
   · split at h
     · cases h; exact .inr (.mui ‹_› ‹_› ‹_› ‹_› ‹_›)
     · cases h
   · cases h
 | call c=>simp only [cU] at h; exact Hg h
 | _=>simp only [cU] at h; cases h
def MO (P:Program) (N:Nat) (ps:List Nat) (ops:Array Oper) (o:Oper):Option AOp:=
 match (cU P o.type o.op).getD .bad,(match o.dst with
  | some t=>decide (t < N) && !ip t ps
  | none=>true) with
 | a,true=>match o.guard with
   | none=>some ⟨o.dst,a,none⟩
   | some (j,b)=>match ops[j]? with
     | some oj=>match oj.dst with
       | some t=>some ⟨o.dst,a,some (t,b)⟩
       | none=>none
     | none=>none
 | _,_=>none
def lJ (P:Program) (N:Nat) (ps:List Nat) (ops:Array Oper):List Oper→Option (List AOp)
 | []=>some []
 | o::os=>match MO P N ps ops o,lJ P N ps ops os with
   | some x,some xs=>some (x::xs)
   | _,_=>none
def Rv (E:List Nat) (x:AOp):AOp:=match x.a with
 | .call f xs=>if ip f E=true then ⟨x.d,.callH f xs,x.g⟩ else x
 | .slq y none (some hi) sz=>if ip 1000000 E=true then ⟨x.d,.trc y hi sz,x.g⟩ else x
 | .callv g xs=>if ip 1000002 E=true then ⟨x.d,.yld g xs,x.g⟩ else x
 | .lit e sz ys=>if (ip 1000001 E || ip (2000000 + e) E)=true then ⟨x.d,.ltr e sz ys,x.g⟩ else x
 | _=>x
def fHs (E:List Nat):List AOp→List AOp
 | []=>[]
 | x::xs=>Rv E x::fHs E xs
section
variable {P:Program}
theorem PD {ty:TypeId} {op:Op} {f:FuncId} {xs:List AO} (h:LV P ty op (.call f xs)):False:=by cases h
theorem Nf {ty:TypeId} {op:Op} {f:FuncId} {xs:List AO} (h:LE P ty op (.call f xs)):LE P ty op (.callH f xs):=by
 cases h; exact .callH ‹_›
theorem Nd {ty:TypeId} {op:Op} {f:AO} {xs:List AO} (h:LV P ty op (.callv f xs)):False:=by cases h
theorem SD {ty:TypeId} {op:Op} {f:AO} {xs:List AO} (h:LE P ty op (.callv f xs)):LE P ty op (.yld f xs):=by
 cases h; exact .yld ‹_›
theorem SB {ty:TypeId} {op:Op} {e sz:Nat} {xs:List AO} (h:LV P ty op (.lit e sz xs)):False:=by cases h
theorem SF {ty:TypeId} {op:Op} {e sz:Nat} {xs:List AO} (h:LE P ty op (.lit e sz xs)):LE P ty op (.ltr e sz xs):=by
 cases h with
 | lit h1 h2 h3 h4 h5 h6 h7 h8 h9=>exact .ltr h1 h2 h3 h4 h5 h6 h7 h8 h9
theorem SE {ty:TypeId} {op:Op} {y:AO} {lo hi:Option AO} {sz:Nat} (h:LE P ty op (.slq y lo hi sz)):False:=by cases h
theorem MQ {t:TypeId} {o:Option Operand} (h:cOo P t o=some none):o=none:=by
 cases o with
 | none=>rfl
 | some o=>simp only [cOo,Option.map_eq_some_iff] at h; obtain ⟨_,_,h⟩:=h; cases h
theorem MP {t:TypeId} {o:Option Operand} {y:AO} (h:cOo P t o=some (some y)):∃ o',o=some o'∧cO P t o'=some y:=by
 cases o with
 | none=>simp only [cOo,Option.some.injEq] at h; cases h
 | some o=>simp only [cOo,Option.map_eq_some_iff] at h; obtain ⟨z,h,e⟩:=h; cases e; exact ⟨o,rfl,h⟩
theorem SA {ty:TypeId} {op:Op} {y hi:AO} {sz:Nat} (h:LV P ty op (.slq y none (some hi) sz)):LE P ty op (.trc y hi sz):=by
 cases h with
 | slq h1 h2 h3 h4 h5=>
   have e1:=MQ h2
   obtain ⟨o',e2,h6⟩:=MP h3
   subst e1; subst e2
   exact .trc h1 h6 h4 h5
theorem JL {E ps:List Nat} {N:Nat} {ops:Array Oper} {o:Oper} {x:AOp} (h:LO P N ps ops o x):LO P N ps ops o (Rv E x):=by
 unfold Rv
 split
 · rename_i f xs hx
   split
   · refine ⟨h.dst,h.lt,.inr (.inl ?_),h.grd⟩
     rcases h.act with h1 | h1 | h1
     · rw [hx] at h1; exact (PD h1).elim
     · rw [hx] at h1; exact Nf h1
     · rw [hx] at h1; cases h1
   · exact h
 · rename_i y hi sz hx
   split
   · refine ⟨h.dst,h.lt,.inr (.inl ?_),h.grd⟩
     rcases h.act with h1 | h1 | h1
     · rw [hx] at h1; exact SA h1
     · rw [hx] at h1; exact (SE h1).elim
     · rw [hx] at h1; cases h1
   · exact h
 · rename_i g xs hx
   split
   · refine ⟨h.dst,h.lt,.inr (.inl ?_),h.grd⟩
     rcases h.act with h1 | h1 | h1
     · rw [hx] at h1; exact (Nd h1).elim
     · rw [hx] at h1; exact SD h1
     · rw [hx] at h1; cases h1
   · exact h
 · rename_i e sz ys hx
   split
   · refine ⟨h.dst,h.lt,.inr (.inl ?_),h.grd⟩
     rcases h.act with h1 | h1 | h1
     · rw [hx] at h1; exact (SB h1).elim
     · rw [hx] at h1; exact SF h1
     · rw [hx] at h1; cases h1
   · exact h
 · exact h
theorem Mp {E ps:List Nat} {N:Nat} {ops:Array Oper} {os:List Oper} {xs:List AOp} (h:LOs P N ps ops os xs):LOs P N ps ops os (fHs E xs):=by
 induction h with
 | nil=>exact .nil
 | cons h1 _ ih=>exact .cons (JL h1) ih
end
def wI:AC→Bool
 | .seq a b=>wI a && wI b
 | .label _=>false
 | .bad=>false
 | _=>true
def q8 (l:Nat):AC→Option AC
 | .seq a b=>match q8 l a with
   | some r=>some (.seq r b)
   | none=>if wI a=true then q8 l b else none
 | .label l'=>if (l' == l)=true then some .skip else none
 | _=>none
theorem F8 {P:Program} {N:Nat} {ps:List Nat} {c:Code} {a:AC} (h:LC P N ps c a) (l:Nat):wI a=true→findLabel c l=none:=by
 induction h with
 | seq _ _ ih1 ih2=>
   intro hn
   simp only [wI,Bool.and_eq_true] at hn
   simp only [findLabel,ih1 hn.1,ih2 hn.2]
 | label=>intro hn; simp [wI] at hn
 | bad=>intro hn; simp [wI] at hn
 | _=>intro _; rfl
theorem ER {P:Program} {N:Nat} {ps:List Nat} {c:Code} {a:AC} (h:LC P N ps c a) {l:Nat}:∀ {b:AC},q8 l a=some b→∃ rest,findLabel c l=some rest∧LC P N ps rest b:=by
 induction h with
 | seq h1 h2 ih1 ih2=>
   intro b hb
   simp only [q8] at hb
   split at hb
   · cases hb
     obtain ⟨r,g1,g2⟩:=ih1 ‹_›
     exact ⟨_,by simp only [findLabel,g1],.seq g2 h2⟩
   · split at hb
     · rename_i hn
       obtain ⟨r,g1,g2⟩:=ih2 hb
       exact ⟨r,by simp only [findLabel,F8 h1 l hn,g1],g2⟩
     · cases hb
 | @label l'=>
   intro b hb
   simp only [q8] at hb
   split at hb
   · rename_i he
     cases hb
     exact ⟨.skip,by simp only [findLabel,he,if_true],.skip⟩
   · cases hb
 | _=>intro b hb; simp [q8] at hb
def bE (P:Program) (N:Nat) (ps E:List Nat):Code→List (List Nat)→Option (AC × List (List Nat))
 | .skip,K=>some (.skip,K)
 | .region _ ops false,ks::K=>match (lJ P N ps ops ops.toList).map (fHs E) with
   | some xs=>some (.reg xs ks,K)
   | none=>none
 | .region _ ops true,[]::ks::K=>match (lJ P N ps ops ops.toList).map (fHs E) with
   | some xs=>if tv xs=true∧ops.size=xs.length then (match wD xs (yX ops ops.size (Array.replicate ops.size false)) with
     | some yss=>some (.regE yss ks,K)
     | none=>none) else some (.bad,K)
   | none=>none
 | .region _ ops true,(1::anc)::ks::K=>match (lJ P N ps ops ops.toList).map (fHs E) with
   | some xs=>if Ds ops anc=true then (match Gj ops xs anc ops.size (Array.replicate ops.size false) with
     | some yss=>some (.regF yss ks,K)
     | none=>none) else none
   | none=>none
 | .region _ ops true,(0::anc)::perm::ks::K=>match (lJ P N ps ops ops.toList).map (fHs E) with
   | some xs=>if tZ ops xs anc perm=true then (match gT xs perm with
     | some ys=>some (.regD ys ks,K)
     | none=>none) else none
   | none=>none
 | .seq x y,K=>match bE P N ps E x K with
   | some (a,K')=>match bE P N ps E y K' with
     | some (b,K'')=>some (.seq a b,K'')
     | none=>none
   | none=>none
 | .cond c x y,K=>match cO P 0 c,bE P N ps E x K with
   | some c',some (a,K')=>match bE P N ps E y K' with
     | some (b,K'')=>some (.cond c' a b,K'')
     | none=>none
   | _,_=>none
 | .block id x,K=>match bE P N ps E x K with
   | some (a,K')=>some (.block id a,K')
   | none=>none
 | .loop x,ks::K=>match bE P N ps E x K with
   | some (a,K')=>some (.loop ks a,K')
   | none=>none
 | .exit id,K=>some (.exit id,K)
 | .ret,K=>some (.ret,K)
 | .rangeFunc _ _ _ _,K=>some (.bad,K)
 | .scope x,(l::ks)::K=>match bE P N ps E x K with
   | some (a,K')=>match q8 l a with
     | some b=>some (.scope l ks a b,K')
     | none=>some (.bad,K')
   | none=>none
 | .scope _,[]::K=>some (.bad,K)
 | .label l,K=>some (.label l,K)
 | .goto l,K=>some (.goto l,K)
 | .refuse _,K=>some (.bad,K)
 | .region _ _ _,_=>none
 | .loop _,_=>none
 | .scope _,_=>none
section
variable {P:Program} {N:Nat} {ps:List Nat}
theorem Hf {ops:Array Oper} {o:Oper} {x:AOp} (h:MO P N ps ops o=some x):LO P N ps ops o x:=by
 unfold MO at h
 split at h
 · rename_i a hd
   have ha:LV P o.type o.op ((cU P o.type o.op).getD .bad)∨LE P o.type o.op ((cU P o.type o.op).getD .bad)∨(cU P o.type o.op).getD .bad=.bad:=by
    cases hc:cU P o.type o.op with
    | none=>exact .inr (.inr rfl)
    | some y=>exact (JX hc).elim .inl (fun h=>.inr (.inl h))
   have hlt:∀ t,o.dst=some t→t < N∧t ∉ ps:=by
    intro t ht
    rw [ht] at hd
    simp only [Bool.and_eq_true,decide_eq_true_eq,Bool.not_eq_true'] at hd
    exact ⟨hd.1,fun hm=>by rw [kw.2 hm] at hd; cases hd.2⟩
   split at h
   · rename_i hg
     cases h
     exact ⟨rfl,hlt,ha,.inl ⟨hg,rfl⟩⟩
   · rename_i j b hg
     split at h
     · rename_i oj hj
       split at h
       · rename_i t ht
         cases h
         exact ⟨rfl,hlt,ha,.inr ⟨j,b,oj,t,hg,hj,ht,rfl⟩⟩
       · cases h
     · cases h
 · cases h
theorem u5 {ops:Array Oper}:∀ {os:List Oper} {xs:List AOp},lJ P N ps ops os=some xs→LOs P N ps ops os xs
 | [],xs,h=>by simp only [lJ,Option.some.injEq] at h; subst h; exact .nil
 | o::os,xs,h=>by
   simp only [lJ] at h
   split at h
   · rename_i x ys hx hy; cases h; exact .cons (Hf hx) (u5 hy)
   · cases h
theorem r6 {E:List Nat} {ops:Array Oper} {xs:List AOp} (h:(lJ P N ps ops ops.toList).map (fHs E)=some xs):LOs P N ps ops ops.toList xs:=by
 obtain ⟨ys,h1,rfl⟩:=Option.map_eq_some_iff.1 h
 exact Mp (u5 h1)
theorem jy {E:List Nat}:∀ {c:Code} {K K':List (List Nat)} {a:AC},bE P N ps E c K=some (a,K')→LC P N ps c a:=by
 intro c
 induction c with
 | skip=>intro K K' a h; simp only [bE,Option.some.injEq,Prod.mk.injEq] at h; rw [←h.1]; exact .skip
 | region id ops d=>
   intro K K' a h
   cases d with
   | false=>
     cases K with
     | nil=>simp only [bE] at h; cases h
     | cons ks K=>
       simp only [bE] at h
       split at h
       · cases h; exact .reg (r6 ‹_›)
       · cases h
   | true=>
     match K,h with
     | [],h=>simp only [bE] at h; cases h
     | [[]],h=>simp only [bE] at h; cases h
     | [_::_],h=>simp only [bE] at h; cases h
     | []::ks::K,h=>
       simp only [bE] at h
       split at h
       · split at h
         · rename_i hc
           split at h
           · cases h; exact .regE (r6 ‹_›) hc.1 hc.2 ‹_›
           · cases h
         · cases h; exact .bad
       · cases h
     | [0::anc,perm],h=>simp only [bE] at h; cases h
     | (1::anc)::ks::K,h=>
       simp only [bE] at h
       split at h
       · split at h
         · rename_i hc
           split at h
           · cases h; exact .regF (r6 ‹_›) hc ‹_›
           · cases h
         · cases h
       · cases h
     | ((n + 2)::l)::k::K,h=>simp only [bE] at h; cases h
     | (0::anc)::perm::ks::K,h=>
       simp only [bE] at h
       split at h
       · split at h
         · rename_i hc
           split at h
           · cases h; exact .regD (r6 ‹_›) hc ‹_›
           · cases h
         · cases h
       · cases h
 | seq x y ihx ihy=>
   intro K K' a h
   simp only [bE] at h
   split at h
   · split at h
     · cases h; exact .seq (ihx ‹_›) (ihy ‹_›)
     · cases h
   · cases h
 | cond c x y ihx ihy=>
   intro K K' a h
   simp only [bE] at h
   split at h
   · split at h
     · cases h; exact .cond (t:=0) ‹_› (ihx ‹_›) (ihy ‹_›)
     · cases h
   · cases h
 | block id x ih=>
   intro K K' a h
   simp only [bE] at h
   split at h
   · cases h; exact .block (ih ‹_›)
   · cases h
 | loop x ih=>
   intro K K' a h
   cases K with
   | nil=>simp only [bE] at h; cases h
   | cons ks K=>
     simp only [bE] at h
     split at h
     · cases h; exact .loop (ih ‹_›)
     · cases h
 | scope x ih=>
   intro K K' a h
   match K,h with
   | [],h=>simp only [bE] at h; cases h
   | []::K,h=>simp only [bE,Option.some.injEq,Prod.mk.injEq] at h; rw [←h.1]; exact .bad
   | (l::ks)::K,h=>
     simp only [bE] at h
     split at h
     · split at h
       · cases h
         have hx:=ih ‹_›
         obtain ⟨rest,g1,g2⟩:=ER hx ‹_›
         exact .scope hx g1 g2
       · cases h; exact .bad
     · cases h
 | label l=>intro K K' a h; simp only [bE,Option.some.injEq,Prod.mk.injEq] at h; rw [←h.1]; exact .label
 | goto l=>intro K K' a h; simp only [bE,Option.some.injEq,Prod.mk.injEq] at h; rw [←h.1]; exact .goto
 | exit id=>intro K K' a h; simp only [bE,Option.some.injEq,Prod.mk.injEq] at h; rw [←h.1]; exact .exit
 | ret=>intro K K' a h; simp only [bE,Option.some.injEq,Prod.mk.injEq] at h; rw [←h.1]; exact .ret
 | _=>intro K K' a h; simp only [bE,Option.some.injEq,Prod.mk.injEq] at h; rw [←h.1]; exact .bad
inductive RV where
 | t (n:Nat)
 | c (a n:Nat) (agg:Bool)
def vD (P:Program):List ResultVar→Option (List RV)
 | []=>some []
 | .tmp t::rs=>(vD P rs).map (.t t::·)
 | .cell a t::rs=>match Aq P t,vD P rs with
   | some (n,g),some xs=>some (.c a n g::xs)
   | _,_=>none
def St.rv (σ:St):RV→Option V
 | .t n=>match lk σ.r n with
   | some v=>if nt v=true then some v else none
   | none=>none
 | .c a n g=>match lk σ.r a with
   | some p=>match σ.fetch p n with
     | some us=>mkc g us
     | none=>none
   | none=>none
def St.rvs (σ:St):List RV→Option (List V)
 | []=>some []
 | x::xs=>match σ.rv x,σ.rvs xs with
   | some v,some vs=>some (v::vs)
   | _,_=>none
def ii:List V→V
 | [v]=>v
 | vs=>.tup vs
def Res (rs:List RV) (post:V→Prop):Ex→St→Prop:=fun e σ=>(match e with
    | .exit _=>False
    | .goto _=>False
    | _=>True)∧match σ.rvs rs with
    | some vs=>match purs σ.h vs with
      | some us=>post (ii us)
      | none=>False
    | none=>False
def ent:Nat→List V→List (Nat × V)
 | _,[]=>[]
 | k,v::vs=>(k,v)::ent (k + 1) vs
theorem Cf:∀ {vs:List V} {k t:Nat} {v:V},lk (ent k vs) t=some v→k≤t∧vs[t - k]?=some v
 | [],k,t,v,h=>by simp [ent,lk] at h
 | u::us,k,t,v,h=>by
   simp only [ent,lk] at h
   split at h
   · rename_i he; subst he; cases h; exact ⟨Nat.le_refl _,by simp⟩
   · rename_i he
     obtain ⟨h1,h2⟩:=Cf h
     refine ⟨by omega,?_⟩
     rw [show t - k=(t - (k + 1)) + 1 by omega]
     simpa using h2
variable {M0:Mem} {B:Bas} {w0:World} {κ:Kap} {M:Mem} {σ:St} {a:Act} {w:World}
def DV (a:Act):ResultVar→Sem Value
 | .tmp t=>pure (a.tmps.getD t undef)
 | .cell x t=>do loadVar t (←asAddr (a.tmps.getD x undef))
theorem mR {fn:Func} {rs:List RV} (hr:vD P fn.results.toList=some rs) (H:Rel N M0 B w0 κ M σ a w) {vs:List V} (hv:σ.rvs rs=some vs):
 ∃ cs:List Value,aa M (XX κ σ.h) vs cs∧(results fn a.tmps).run P w=.ok (if h:cs.length=1 then cs[0] else .tuple cs.toArray) w:=by
 have key:∀ (l:List ResultVar) (rs:List RV) (vs:List V),vD P l=some rs→σ.rvs rs=some vs→
  ∃ cs:List Value,aa M (XX κ σ.h) vs cs∧(l.mapM (DV a)).run P w=.ok cs w:=by
  intro l
  induction l with
  | nil=>
    intro rs vs h1 h2
    simp only [vD,Option.some.injEq] at h1
    subst h1
    simp only [St.rvs,Option.some.injEq] at h2
    subst h2
    exact ⟨[],by simp [aa],by simp⟩
  | cons x l ih=>
    intro rs vs h1 h2
    cases x with
    | tmp t=>
      simp only [vD,Option.map_eq_some_iff] at h1
      obtain ⟨rs',h1,rfl⟩:=h1
      simp only [St.rvs] at h2
      split at h2
      · rename_i v us g1 g2
        cases h2
        obtain ⟨cs,k1,k2⟩:=ih rs' us h1 g2
        simp only [St.rv] at g1
        split at g1
        · rename_i u hu
          split at g1
          · cases g1
            obtain ⟨_,c,e1,e2⟩:=H.regs _ _ hu
            refine ⟨c::cs,by simp only [aa]; exact ⟨c,cs,rfl,e2,k1⟩,?_⟩
            have hF:(DV a (.tmp t)).run P w=.ok c w:=by simp [DV,e1]
            rw [List.mapM_cons,Sem.run_bind,hF,Result.andThen_ok,Sem.run_bind,k2,Result.andThen_ok,Sem.run_pure]
          · cases g1
        · cases g1
      · cases h2
    | cell t ty=>
      simp only [vD] at h1
      split at h1
      · rename_i n g xs hs hx
        cases h1
        simp only [St.rvs] at h2
        split at h2
        · rename_i v us g1 g2
          cases h2
          obtain ⟨cs,k1,k2⟩:=ih _ us hx g2
          simp only [St.rv] at g1
          split at g1
          · rename_i p hp
            split at g1
            · rename_i vs' hf
              obtain ⟨s1,s2,s3⟩:=kU hs
              obtain ⟨_,c,e1,e2⟩:=H.regs _ _ hp
              obtain ⟨b,o',ds,e,f1,f2,f3,f4⟩:=uQ H e2 hf
              subst e
              rcases vO g1 f1 f2 with ⟨rfl,hk⟩ | ⟨rfl,c,hk1,hk2⟩
              · refine ⟨.agg ds.toArray::cs,by simp only [aa]; exact ⟨_,cs,rfl,hk,k1⟩,?_⟩
                have:=run_loadCells_list (P:=P) w ⟨b,o',none⟩ ds f4
                rw [f3] at this
                have hF:(DV a (.cell t ty)).run P w=.ok (.agg ds.toArray) w:=by simp [DV,e1,asAddr,loadVar,iG s2,aU s1,this]
                rw [List.mapM_cons,Sem.run_bind,hF,Result.andThen_ok,Sem.run_bind,k2,Result.andThen_ok,Sem.run_pure]
              · refine ⟨c::cs,by simp only [aa]; exact ⟨c,cs,rfl,hk2,k1⟩,?_⟩
                have:=f4 0 c (by simp [hk1])
                rw [Addr.add_lit] at this
                simp at this
                have hF:(DV a (.cell t ty)).run P w=.ok c w:=by simp [DV,e1,asAddr,loadVar,iG s2,this]
                rw [List.mapM_cons,Sem.run_bind,hF,Result.andThen_ok,Sem.run_bind,k2,Result.andThen_ok,Sem.run_pure]
            · cases g1
          · cases g1
        · cases h2
      · cases h1
 obtain ⟨cs,k1,k2⟩:=key _ _ _ hr hv
 refine ⟨cs,k1,?_⟩
 have e:results fn a.tmps=(do
  let vs ←fn.results.mapM (DV a)
  pure (if h:vs.size=1 then vs[0] else .tuple vs)):=by
  unfold results
  congr 2
 rw [e,Array.mapM_eq_mapM_toList]
 simp [Sem.run_bind,k2]
theorem vY {c:Code} {Q:Exit→Act→World→Prop} {a:Act} {w:World} (h:c.wpIn (FR none) 0 P Q a w):c.wp P Q a w:=wpIn_wide.1 h
theorem FnE.of_W {f:FuncId} {fn:Func} {c:Code} {us:List V} {r:V} {x:AC} {rs:List RV} (hm:P.follows .mixedOrders=true) (hf:P.funcs[f]?=some fn) (hb:fn.body=some c)
 (hn:(fn.name == "runtime.NumGoroutine")=false) (hc:LC P fn.ntmps [] c x) (hr:vD P fn.results.toList=some rs) (hs:us.length≤fn.ntmps)
 (hW:oks us→W (Cn P) x (Res rs (·=r)) ⟨ent 0 us,[]⟩):FnE P f us r where
 call:=fun args w=>by
  unfold callFunc
  simp only [beq_eq_false_iff_ne,ne_eq] at hn
  simp [Sem.run_bind,hf,hb,hn]
 does:=fun M w cs hM hus=>by
  have hl:cs.size=us.length:=by have:=aG hus; simpa using this
  refine calls_of_wp hf hb ?_
  have H:Rel fn.ntmps M ⟨w.heap.size,fun _=>False,[],#[],w.heap.size,noJ,[]⟩ w ⟨fun _=>undef,fun _ _=>undef,fun _ _=>False,fun _=>none⟩ M ⟨ent 0 us,[]⟩ { tmps:=cs++Array.replicate (fn.ntmps - cs.size) undef,defers:=[] } w:=
   { dfr:=rfl,jst:=wJ rfl,pin:=fun i hi=>by cases hi
     size:=by simp; omega
     regs:=fun t v ht=>by
      obtain ⟨_,h2⟩:=Cf ht
      simp only [Nat.sub_zero] at h2
      have hlt:t < us.length:=(List.getElem?_eq_some_iff.1 h2).1
      obtain ⟨c,h3,h4⟩:=dr hus h2
      refine ⟨by omega,c,?_,ax (fun _ _ h=>h) (fun _ _ h=>h.elim) _ _ h4⟩
      rw [Array.getElem?_append_left (by omega)]
      simpa using h3
     heap:=fun id ob h=>by simp at h
     inj:=fun i j oi oj g h=>by simp at h
     snd:=hM.snd
     sep:=fun p v _ id ob h=>by simp at h
     sub:=⟨fun _ _ h=>h,fun _ _ h=>(by cases h),fun _ _ h=>(by cases h),Nat.le_refl _,hM.gl⟩
     new:=fun _ _ h=>.inl h
     base:=rfl
     blw:=Und.refl _ _ }
  refine vY (Dv hm (rY rfl) (B:=⟨w.heap.size,fun _=>False,[],#[],w.heap.size,noJ,[]⟩) hc ?_ H (hW (dC hus)))
  intro e κ M1 σ a w1 hR H1
  simp only [Res] at hR
  obtain ⟨he,hR⟩:=hR
  split at hR
  · rename_i vs hvs
    split at hR
    · rename_i ws hws
      obtain ⟨ds,k1,k2⟩:=mR hr H1 hvs
      obtain ⟨H2,hM1⟩:=H1.kill (ai vs) (dg hws)
      have k3:aa (ext M1 w1 (lL κ (ai vs))) NX ws ds:=by
       refine bv H1 hM1 (fun id hid g hg p hpb=>?_) k1 hws
       unfold ext
       rw [if_pos (cZ.2 ⟨id,hid,by rw [hpb]; exact hg⟩)]
      have fin:bodyPost P fn (fun e w'=>∃ (c:Value) (M':Mem),e=.returned c∧rep M' NX r c∧Below w.heap.size w w'∧(∀ p v,M' p=some v→w'.cell? p=some v)∧
       (∀ p v,M p=some v→M' p=some v)∧∀ p v,M' p=some v→M p=some v∨w.heap.size≤p.block) .normal a w1:=by
       refine ⟨H1.dfr,_,k2,_,_,rfl,?_,⟨H1.blw.os,H1.blw.tape,H1.blw.output,H1.blw.size,fun k hk=>H1.blw.block k hk id⟩,H2.snd,H2.sub.sub,fun p v h=>(H2.new p v h).imp_right fun h=>h.elim id False.elim⟩
       subst hR
       match ws,ds,k3 with
       | [],[],k3=>simp only [ii,rep]; exact ⟨#[],rfl,by simp [aa]⟩
       | [v],[d],k3=>
         simp only [aa] at k3
         obtain ⟨_,_,h1,h2,_⟩:=k3
         cases h1
         simpa [ii] using h2
       | v::v'::vs',d::d'::ds',k3=>
         have e:(if h:(d::d'::ds').length=1 then (d::d'::ds')[0] else .tuple (d::d'::ds').toArray)=.tuple (d::d'::ds').toArray:=dif_neg (by simp)
         rw [e]
         simp only [ii,rep]
         exact ⟨_,rfl,by simpa using k3⟩
       | [],d::ds,k3=>simp [aa] at k3
       | v::vs,[],k3=>simp [aa] at k3
       | [v],d::d'::ds,k3=>simp [aa] at k3
       | v::v'::vs,[d],k3=>
         simp only [aa] at k3
         obtain ⟨c,cs',h1,_,c2,cs2,h2,_⟩:=k3
         cases h1
         cases h2
      cases e with
      | norm=>exact fin
      | ret=>exact fin
      | exit id=>exact he.elim
      | goto l=>exact he.elim
    · exact hR.elim
  · exact hR.elim
def Dw (rs:List RV) (r:V):Ex→St→Prop:=fun e σ=>(match e with
    | .exit _=>False
    | .goto _=>False
    | _=>True)∧match σ.rvs rs with
    | some vs=>xD σ.h vs=true∧(match purs σ.h vs with
      | some us=>ii us=r
      | none=>False)
    | none=>False
theorem KS {M:Mem} {X:V→Value→Prop}:∀ {ws:List V} {ds:List Value},aa M X ws ds→rep M X (ii ws) (if h:ds.length=1 then ds[0] else .tuple ds.toArray)
 | [],[],k3=>by simp only [ii,rep]; exact ⟨#[],rfl,by simp [aa]⟩
 | [v],[d],k3=>by
   simp only [aa] at k3
   obtain ⟨_,_,h1,h2,_⟩:=k3
   cases h1
   simpa [ii] using h2
 | v::v'::vs',d::d'::ds',k3=>by
   have e:(if h:(d::d'::ds').length=1 then (d::d'::ds')[0] else .tuple (d::d'::ds').toArray)=.tuple (d::d'::ds').toArray:=dif_neg (by simp)
   rw [e]
   simp only [ii,rep]
   exact ⟨_,rfl,by simpa using k3⟩
 | [],d::ds,k3=>by simp [aa] at k3
 | v::vs,[],k3=>by simp [aa] at k3
 | [v],d::d'::ds,k3=>by simp [aa] at k3
 | v::v'::vs,[d],k3=>by
   simp only [aa] at k3
   obtain ⟨c,cs',h1,_,c2,cs2,h2,_⟩:=k3
   cases h1
   cases h2
theorem FnN.of_W {f:FuncId} {fn:Func} {c:Code} {us:List V} {r:V} {x:AC} {rs:List RV} (hm:P.follows .mixedOrders=true) (hf:P.funcs[f]?=some fn) (hb:fn.body=some c)
 (hn:(fn.name == "runtime.NumGoroutine")=false) (hc:LC P fn.ntmps [] c x) (hr:vD P fn.results.toList=some rs) (hs:us.length≤fn.ntmps)
 (hW:oks us→W (Cn P) x (Dw rs r) ⟨ent 0 us,[]⟩):FnN P f us r:=by
 intro M w cs hM hus o a Nx Q hN
 have hcall:(callFunc f cs).run P w=.ok (.enter f cs) w:=by
  unfold callFunc
  simp only [beq_eq_false_iff_ne,ne_eq] at hn
  simp [Sem.run_bind,hf,hb,hn]
 have hl:cs.size=us.length:=by have:=aG hus; simpa using this
 rw [hcall,Oper.upon_enter]
 have key:Calls P f cs w fun e w'=>∃ (c:Value) (M':Mem),e=.returned c∧rep (qE w M') NX r c∧Below w.heap.size w w'∧∀ p v,M' p=some v→w'.cell? p=some v:=by
  refine calls_of_wp hf hb ?_
  have H:Rel fn.ntmps M ⟨w.heap.size,fun _=>False,[],#[],w.heap.size,noJ,[]⟩ w ⟨fun _=>undef,fun _ _=>undef,fun _ _=>False,fun _=>none⟩ M ⟨ent 0 us,[]⟩ { tmps:=cs++Array.replicate (fn.ntmps - cs.size) undef,defers:=[] } w:=
   { dfr:=rfl,jst:=wJ rfl,pin:=fun i hi=>by cases hi
     size:=by simp; omega
     regs:=fun t v ht=>by
      obtain ⟨_,h2⟩:=Cf ht
      simp only [Nat.sub_zero] at h2
      have hlt:t < us.length:=(List.getElem?_eq_some_iff.1 h2).1
      obtain ⟨c,h3,h4⟩:=dr hus h2
      refine ⟨by omega,c,?_,ax (fun _ _ h=>h) (fun _ _ h=>h.elim) _ _ h4⟩
      rw [Array.getElem?_append_left (by omega)]
      simpa using h3
     heap:=fun id ob h=>by simp at h
     inj:=fun i j oi oj g h=>by simp at h
     snd:=hM.snd
     sep:=fun p v _ id ob h=>by simp at h
     sub:=⟨fun _ _ h=>h,fun _ _ h=>(by cases h),fun _ _ h=>(by cases h),Nat.le_refl _,hM.gl⟩
     new:=fun _ _ h=>.inl h
     base:=rfl
     blw:=Und.refl _ _ }
  refine vY (Dv hm (rY rfl) (B:=⟨w.heap.size,fun _=>False,[],#[],w.heap.size,noJ,[]⟩) hc ?_ H (hW (dC hus)))
  intro e κ M1 σ a w1 hR H1
  simp only [Dw] at hR
  obtain ⟨he,hR⟩:=hR
  split at hR
  · rename_i vs hvs
    obtain ⟨hfr,hR⟩:=hR
    split at hR
    · rename_i ws hws
      obtain ⟨ds,k1,k2⟩:=mR hr H1 hvs
      obtain ⟨H2,hM1⟩:=H1.kill (ai vs) (dg hws)
      have k3:aa (qE w (ext M1 w1 (lL κ (ai vs)))) NX ws ds:=by
       refine su H1 (fun p v hp=>by unfold qE; rw [if_pos (H1.sub.fmN p v hp)]; exact hM1 p v (H1.sub.fmS p v hp)) (fun id hid g hg p hpb=>?_) hfr k1 hws
       obtain ⟨ob,hob⟩:=dg hws id hid
       have hgw:w.heap.size≤g:=by
        rcases (H1.blk_lt hob hg).1 with h | h
        · exact h
        · exact h.elim
       unfold qE
       rw [if_pos (by omega)]
       unfold ext
       rw [if_pos (cZ.2 ⟨id,hid,by rw [hpb]; exact hg⟩)]
      have fin:bodyPost P fn (fun e w'=>∃ (c:Value) (M':Mem),e=.returned c∧rep (qE w M') NX r c∧Below w.heap.size w w'∧∀ p v,M' p=some v→w'.cell? p=some v) .normal a w1:=by
       refine ⟨H1.dfr,_,k2,_,_,rfl,?_,⟨H1.blw.os,H1.blw.tape,H1.blw.output,H1.blw.size,fun k hk=>H1.blw.block k hk id⟩,H2.snd⟩
       subst hR
       exact KS k3
      cases e with
      | norm=>exact fin
      | ret=>exact fin
      | exit id=>exact he.elim
      | goto l=>exact he.elim
    · exact hR.elim
  · exact hR.elim
 refine key.mono ?_
 rintro e w' ⟨c,M',rfl,h1,h2,h3⟩
 exact hN c M' w' h1 h2 h3
mutual
def jk:V→V
 | .seq sz l=>if l.isEmpty=true then .seq sz l else .junk
 | .strct cs=>.strct (jks cs)
 | .tup cs=>.tup (jks cs)
 | .sptr _ _=>.junk
 | v=>v
def jks:List V→List V
 | []=>[]
 | v::vs=>jk v::jks vs
end
mutual
theorem L5 {M:Mem} {X:V→Value→Prop}:∀ {v:V} {c:Value},rep M X v c→rep M X (jk v) c
 | .seq sz l,c,h=>by
   simp only [jk]
   split
   · exact h
   · simp only [rep] at h ⊢
     obtain ⟨a,cap,rfl,_⟩:=h
     rfl
 | .strct cs,c,h=>by
   simp only [rep,jk] at h ⊢
   obtain ⟨arr,h1,h2,h3⟩:=h
   exact ⟨arr,h1,Cj h2,h3⟩
 | .tup cs,c,h=>by
   simp only [rep,jk] at h ⊢
   obtain ⟨arr,h1,h2⟩:=h
   exact ⟨arr,h1,Cj h2⟩
 | .sptr _ _,c,h=>by
   simp only [rep,jk] at h ⊢
   obtain ⟨b,o,y,rfl,_⟩:=h
   rfl
 | .int _ _,_,h=>h
 | .bool _,_,h=>h
 | .str _,_,h=>h
 | .nil _,_,h=>h
 | .ref _ _,_,h=>h
 | .ptr _ _,_,h=>h
 | .eptr _ _ _ _,_,h=>h
 | .mref _ _ _,_,h=>h
 | .fseq _ _,_,h=>h
 | .mptr _ _ _ _ _,_,h=>h
 | .nilptr,_,h=>h
 | .fn _ _ _,_,h=>h
 | .nilfn,_,h=>h
 | .iface _ _,_,h=>h
 | .niliface,_,h=>h
 | .junk,_,h=>h
theorem Cj {M:Mem} {X:V→Value→Prop}:∀ {vs:List V} {cs:List Value},aa M X vs cs→aa M X (jks vs) cs
 | [],_,h=>h
 | v::vs,cs,h=>by
   simp only [aa,jks] at h ⊢
   obtain ⟨c,cs',h1,h2,h3⟩:=h
   exact ⟨c,cs',h1,L5 h2,Cj h3⟩
end
theorem Fn.weak {f:FuncId} {us:List V} {r r':V} (h:Fn P f us r) (hr:∀ M c,rep M NX r c→rep M NX r' c):Fn P f us r':=
 fun M w cs hM hus o a Nx Q hN=>h M w cs hM hus o a Nx Q fun c M' w' h1=>hN c M' w' (hr M' c h1)
theorem Fn.jk {f:FuncId} {us:List V} {r:V} (h:Fn P f us r):Fn P f us (jk r):=h.weak fun _ _=>L5
def an (P:Program) (fn:Func) (K:List (List Nat)) (n:Nat):Option (AC × List RV):=
 match fn.body with
 | some c=>match bE P fn.ntmps [] [] c K,vD P fn.results.toList with
   | some (x,[]),some rs=>if (fn.name == "runtime.NumGoroutine")=false∧n≤fn.ntmps then some (x,rs) else none
   | _,_=>none
 | none=>none
theorem FnE.of_image {f:FuncId} {fn:Func} {us:List V} {r:V} {x:AC} {K:List (List Nat)} {rs:List RV} {n:Nat} (hm:P.follows .mixedOrders=true) (hf:P.funcs[f]?=some fn)
 (hi:an P fn K n=some (x,rs)) (hn:us.length=n) (hW:oks us→W (Cn P) x (Res rs (·=r)) ⟨ent 0 us,[]⟩):FnE P f us r:=by
 unfold an at hi
 split at hi
 · split at hi
   · split at hi
     · rename_i hc
       cases hi
       exact FnE.of_W hm hf ‹_› hc.1 (jy ‹_›) ‹_› (by rw [hn]; exact hc.2) hW
     · cases hi
   · cases hi
 · cases hi
theorem Fn.of_image {f:FuncId} {fn:Func} {us:List V} {r:V} {x:AC} {K:List (List Nat)} {rs:List RV} {n:Nat} (hm:P.follows .mixedOrders=true) (hf:P.funcs[f]?=some fn)
 (hi:an P fn K n=some (x,rs)) (hn:us.length=n) (hW:oks us→W (Cn P) x (Res rs (·=r)) ⟨ent 0 us,[]⟩):Fn P f us r:=(FnE.of_image hm hf hi hn hW).fn
theorem FnN.of_image {f:FuncId} {fn:Func} {us:List V} {r:V} {x:AC} {K:List (List Nat)} {rs:List RV} {n:Nat} (hm:P.follows .mixedOrders=true) (hf:P.funcs[f]?=some fn)
 (hi:an P fn K n=some (x,rs)) (hn:us.length=n) (hW:oks us→W (Cn P) x (Dw rs r) ⟨ent 0 us,[]⟩):FnN P f us r:=by
 unfold an at hi
 split at hi
 · split at hi
   · split at hi
     · rename_i hc
       cases hi
       exact FnN.of_W hm hf ‹_› hc.1 (jy ‹_›) ‹_› (by rw [hn]; exact hc.2) hW
     · cases hi
   · cases hi
 · cases hi
def rP:List (Nat × V)→List V
 | []=>[]
 | (_,v)::r=>v::rP r
def AH (m:List Nat) (r:List (Nat × V)) (us:List V):List Nat→Prop
 | []=>True
 | i::is=>(match lk r i,us[i]? with
   | some v,some u=>ren m v=u
   | _,_=>False)∧AH m r us is
def DT (σ:St) (ps:List Nat) (us:List V) (r:V) (H':List (Option Ob)) (vs:List V) (m:List Nat):Prop:=
 AH m σ.r us ps∧ii (cW m vs)=r∧fD σ.h m m=H'
def Fp (rs:List RV) (ps:List Nat) (us:List V) (r:V) (H':List (Option Ob)):Ex→St→Prop:=fun e σ=>(match e with
    | .exit _=>False
    | .goto _=>False
    | _=>True)∧match σ.rvs rs with
    | some vs=>DT σ ps us r H' vs (dY σ.h (rP (pk σ.r ps)) vs).2
    | none=>False
theorem AG {m:List Nat} {r:List (Nat × V)} {us:List V}:∀ {is:List Nat},AH m r us is→∀ i,i∈is→∃ v u,lk r i=some v∧us[i]?=some u∧ren m v=u
 | [],_,i,hi=>by cases hi
 | j::is,h,i,hi=>by
   simp only [AH] at h
   rcases List.mem_cons.1 hi with rfl | hi
   · have h1:=h.1
     split at h1
     · exact ⟨_,_,by assumption,by assumption,h1⟩
     · exact h1.elim
   · exact AG h.2 i hi
theorem FnH.of_W {f:FuncId} {fn:Func} {c:Code} {ps:List Nat} {us:List V} {H H':List (Option Ob)} {r:V} {x:AC} {rs:List RV} (hm:P.follows .mixedOrders=true) (hf:P.funcs[f]?=some fn) (hb:fn.body=some c)
 (hn:(fn.name == "runtime.NumGoroutine")=false) (hc:LC P fn.ntmps ps c x) (hr:vD P fn.results.toList=some rs) (hs:us.length≤fn.ntmps) (hps:∀ i∈ps,i < us.length)
 (hW:oks us→okH H→W (Cn P) x (Fp rs ps us r H') ⟨ent 0 us,H⟩):FnH P f ps us H r H':=by
 intro M w κ cs J hJC hp hus o a Nx Q hN
 have hcall:(callFunc f cs).run P w=.ok (.enter f cs) w:=by
  unfold callFunc
  simp only [beq_eq_false_iff_ne,ne_eq] at hn
  simp [Sem.run_bind,hf,hb,hn]
 have hl:cs.size=us.length:=by have:=aG hus; simpa using this
 rw [hcall,Oper.upon_enter]
 have key:Calls P f cs w fun e w'=>∃ (c:Value) (M':Mem) (κ':Kap),e=.returned c∧rep M' (XX κ' H') r c∧Und (cI κ H w ps cs J) w w'∧Heap κ' M' (cI κ H w ps cs J) w' H'∧
  (∀ p v,M p=some v→M' p=some v)∧(∀ p v,M' p=some v→M p=some v∨(cI κ H w ps cs J).own p.block)∧
  (∀ i,i∈ps→∀ u d,us[i]?=some u→cs[i]?=some d→rep M' (XX κ' H') u d):=by
  refine calls_of_wp hf hb ?_
  have H0:Rel fn.ntmps M (cI κ H w ps cs J) w κ M ⟨ent 0 us,H⟩ { tmps:=cs++Array.replicate (fn.ntmps - cs.size) undef,defers:=[] } w:=
   { dfr:=rfl
     jst:=hp.jst
     pin:=fun i hi=>by
      have hi:i∈ps:=hi
      have:=hps i hi
      show (cs++Array.replicate (fn.ntmps - cs.size) undef)[i]?=cs[i]?
      rw [Array.getElem?_append_left (by omega)]
     size:=by simp; omega
     regs:=fun t v ht=>by
      obtain ⟨_,h2⟩:=Cf ht
      simp only [Nat.sub_zero] at h2
      have hlt:t < us.length:=(List.getElem?_eq_some_iff.1 h2).1
      obtain ⟨c,h3,h4⟩:=dr hus h2
      refine ⟨by omega,c,?_,h4⟩
      rw [Array.getElem?_append_left (by omega)]
      simpa using h3
     heap:=hp.heap
     inj:=hp.inj
     snd:=hp.snd
     sep:=hp.sep
     sub:=⟨fun _ _ h=>h,hp.fmS,fun _ _ _=>Nat.zero_le _,Nat.zero_le _,hp.gl⟩
     new:=fun _ _ h=>.inl h
     base:=rfl
     blw:=Und.refl _ _ }
  refine vY (Dv hm hJC (B:=cI κ H w ps cs J) hc ?_ H0 (hW (dC hus) (HZ hp.heap)))
  intro e κ1 M1 σ a w1 hR H1
  simp only [Fp] at hR
  obtain ⟨he,hR⟩:=hR
  split at hR
  · rename_i vs hvs
    obtain ⟨ds,k1,k2⟩:=mR hr H1 hvs
    obtain ⟨hmn,_,_⟩:=A1 (h:=σ.h) (pvs:=rP (pk σ.r ps)) (vs:=vs)
    generalize (dY σ.h (rP (pk σ.r ps)) vs).2=m at *
    obtain ⟨hR1,hR2,hR3⟩:=hR
    have H2:=H1.ren hmn [] (fun t v h=>by simp [lk] at h)
    have k3:=f8 (yu (M:=M1) (κ:=κ1) (h:=σ.h) hmn) k1
    simp only [BS] at H2
    rw [hR3] at H2 k3
    have hpin:∀ i,i∈ps→∀ u d,us[i]?=some u→cs[i]?=some d→rep M1 (XX (κ1.ren m) H') u d:=by
     intro i hi u d hu hd
     obtain ⟨v,u',e1,e2,e3⟩:=AG hR1 i hi
     rw [hu] at e2
     cases e2
     obtain ⟨_,c,g2,g3⟩:=H1.regs i v e1
     rw [H1.pin i hi] at g2
     have g2:cs[i]?=some c:=g2
     rw [hd] at g2
     cases g2
     rw [←e3,←hR3]
     exact vJ (yu hmn) g3
    generalize hk':κ1.ren m=κ' at *
    have fin:bodyPost P fn (fun e w'=>∃ (c:Value) (M':Mem) (κ':Kap),e=.returned c∧rep M' (XX κ' H') r c∧Und (cI κ H w ps cs J) w w'∧Heap κ' M' (cI κ H w ps cs J) w' H'∧
     (∀ p v,M p=some v→M' p=some v)∧(∀ p v,M' p=some v→M p=some v∨(cI κ H w ps cs J).own p.block)∧
     (∀ i,i∈ps→∀ u d,us[i]?=some u→cs[i]?=some d→rep M' (XX κ' H') u d)) .normal a w1:=by
     refine ⟨H1.dfr,_,k2,_,M1,κ',rfl,?_,H1.blw,⟨H2.heap,H2.inj,H2.snd,H2.sep,H2.sub.fmS,H2.sub.gl.mono H2.sub.sub,H2.jst⟩,H1.sub.sub,H1.new,hpin⟩
     subst hR2
     generalize cW m vs=ws at *
     match ws,ds,k3 with
     | [],[],k3=>simp only [ii,rep]; exact ⟨#[],rfl,by simp [aa]⟩
     | [v],[d],k3=>
       simp only [aa] at k3
       obtain ⟨_,_,h1,h2,_⟩:=k3
       cases h1
       simpa [ii] using h2
     | v::v'::vs',d::d'::ds',k3=>
       have e:(if h:(d::d'::ds').length=1 then (d::d'::ds')[0] else .tuple (d::d'::ds').toArray)=.tuple (d::d'::ds').toArray:=dif_neg (by simp)
       rw [e]
       simp only [ii,rep]
       exact ⟨_,rfl,by simpa using k3⟩
     | [],d::ds,k3=>simp [aa] at k3
     | v::vs,[],k3=>simp [aa] at k3
     | [v],d::d'::ds,k3=>simp [aa] at k3
     | v::v'::vs,[d],k3=>
       simp only [aa] at k3
       obtain ⟨c,cs',h1,_,c2,cs2,h2,_⟩:=k3
       cases h1
       cases h2
    cases e with
    | norm=>exact fin
    | ret=>exact fin
    | exit id=>exact he.elim
    | goto l=>exact he.elim
  · exact hR.elim
 refine key.mono ?_
 rintro e w' ⟨c,M',κ',rfl,h1,h2,h3,h4,h5,h6⟩
 exact hN c M' w' κ' h1 h2 h3 h4 h5 h6
def am (P:Program) (fn:Func) (ps E:List Nat) (K:List (List Nat)) (n:Nat):Option (AC × List RV):=
 match fn.body with
 | some c=>match bE P fn.ntmps ps E c K,vD P fn.results.toList with
   | some (x,[]),some rs=>if (fn.name == "runtime.NumGoroutine")=false∧n≤fn.ntmps∧ps.all (fun i=>decide (i < n))=true then some (x,rs) else none
   | _,_=>none
 | none=>none
theorem FnH.of_image {f:FuncId} {fn:Func} {ps E:List Nat} {us:List V} {H H':List (Option Ob)} {r:V} {x:AC} {K:List (List Nat)} {rs:List RV} {n:Nat} (hm:P.follows .mixedOrders=true) (hf:P.funcs[f]?=some fn)
 (hi:am P fn ps E K n=some (x,rs)) (hn:us.length=n) (hW:oks us→okH H→W (Cn P) x (Fp rs ps us r H') ⟨ent 0 us,H⟩):FnH P f ps us H r H':=by
 unfold am at hi
 split at hi
 · split at hi
   · split at hi
     · rename_i hc
       cases hi
       exact FnH.of_W hm hf ‹_› hc.1 (jy ‹_›) ‹_› (by rw [hn]; exact hc.2.1) (fun i hi=>by have:=List.all_eq_true.1 hc.2.2 i hi; simp at this; omega) hW
     · cases hi
   · cases hi
 · cases hi
theorem Fn.of_imageE {f:FuncId} {fn:Func} {E:List Nat} {us:List V} {r:V} {x:AC} {K:List (List Nat)} {rs:List RV} {n:Nat} (hm:P.follows .mixedOrders=true) (hf:P.funcs[f]?=some fn)
 (hi:am P fn [] E K n=some (x,rs)) (hn:us.length=n) (hW:oks us→W (Cn P) x (Res rs (·=r)) ⟨ent 0 us,[]⟩):Fn P f us r:=by
 unfold am at hi
 split at hi
 · split at hi
   · split at hi
     · rename_i hc
       cases hi
       exact (FnE.of_W hm hf ‹_› hc.1 (jy ‹_›) ‹_› (by rw [hn]; exact hc.2.1) hW).fn
     · cases hi
   · cases hi
 · cases hi
end
end Go.Abs
end
section
namespace Go.Abs
def oM {α:Type} (x:Option α) (k:α→Prop):Prop:=match x with
 | some v=>k v
 | none=>False
def oN {α:Type} (x:Option α) (k:α→Prop) (e:Prop):Prop:=match x with
 | some v=>k v
 | none=>e
theorem ON {α:Type} {v:α} {k:α→Prop} {e:Prop}:oN (some v) k e=k v:=propext Iff.rfl
theorem OO {α:Type} {k:α→Prop} {e:Prop}:oN none k e=e:=propext Iff.rfl
def BrK (t:Bool) (A B:St→Prop) (σ:St):Prop:=Br t (A σ) (B σ)
def rqK (p:Prop) (K:St→Prop) (σ:St):Prop:=p∧K σ
def cM (x:Option V) (A B:St→Prop) (σ:St):Prop:=match x with
 | some (.bool t)=>Br t (A σ) (B σ)
 | _=>False
def gM (x:Option V) (b:Bool) (A B:St→Prop) (σ:St):Prop:=match x with
 | some (.bool y)=>if b=true then Br y (A σ) (B σ) else Br y (B σ) (A σ)
 | some (.tup [])=>B σ
 | _=>False
def Pg (Q:Ex→St→Prop) (ks:List Nat) (σ:St):Prop:=Q .norm { σ with r:=pk σ.r ks }
def skK (d:Option Nat) (K:St→Prop) (σ:St):Prop:=K (σ.put d (.tup []))
def eu (σ:St) (d:Option Nat) (K:St→Prop) (v:V):Prop:=K (σ.put d v)
theorem BrK.mk {t:Bool} {A B:St→Prop} {σ:St} (h:t=true→A σ) (h':t=false→B σ):BrK t A B σ:=⟨h,h'⟩
theorem Ft {A B:St→Prop} {σ:St}:BrK true A B σ=A σ:=by simp [BrK,Br]
theorem Bx {A B:St→Prop} {σ:St}:BrK false A B σ=B σ:=by simp [BrK,Br]
theorem BrKd.mk {p:Prop} [Decidable p] {A B:St→Prop} {σ:St} (h:p→A σ) (h':¬p→B σ):BrK (decide p) A B σ:=⟨fun e=>h (of_decide_eq_true e),fun e=>h' (of_decide_eq_false e)⟩
theorem BrK_t {p:Prop} [Decidable p] {A B:St→Prop} {σ:St} (h:p):BrK (decide p) A B σ=A σ:=by rw [decide_eq_true h]; exact Ft
theorem BrK_f {p:Prop} [Decidable p] {A B:St→Prop} {σ:St} (h:¬p):BrK (decide p) A B σ=B σ:=by rw [decide_eq_false h]; exact Bx
theorem BrK_n {b:Bool} {A B:St→Prop} {σ:St}:BrK (!b) A B σ=BrK b B A σ:=by cases b<;>simp [BrK,Br]
theorem rqK_t {p:Prop} {K:St→Prop} {σ:St} (h:p):rqK p K σ=K σ:=by simp [rqK,h]
theorem Lj {K:St→Prop} {σ:St}:rqK True K σ=K σ:=by simp [rqK]
theorem OP {α:Type} {v:α} {k:α→Prop}:oM (some v) k=k v:=propext Iff.rfl
theorem OR {α:Type} {k:α→Prop}:oM none k=False:=propext Iff.rfl
theorem Pl {t:Bool} {A B:St→Prop} {σ:St}:cM (some (.bool t)) A B σ=BrK t A B σ:=propext Iff.rfl
theorem O8 {y:Bool} {A B:St→Prop} {σ:St}:gM (some (.bool y)) true A B σ=BrK y A B σ:=propext Iff.rfl
theorem Mi {y:Bool} {A B:St→Prop} {σ:St}:gM (some (.bool y)) false A B σ=BrK y B A σ:=propext Iff.rfl
theorem Ru {b:Bool} {A B:St→Prop} {σ:St}:gM (some (.tup [])) b A B σ=B σ:=by cases b<;>rfl
section
variable {Φ:Ctr} {Q:Ex→St→Prop} {σ:St} {K:St→Prop} {d:Option Nat}
theorem MD {ks:List Nat}:Pg Q ks σ=Q .norm { σ with r:=pk σ.r ks }:=propext Iff.rfl
theorem Ox:skK d K σ=K (σ.put d (.tup [])):=propext Iff.rfl
theorem Ly {v:V}:eu σ d K v=K (σ.put d v):=propext Iff.rfl
theorem Su {ops ks}:W Φ (.reg ops ks) Q σ=s7 Φ ops (Pg Q ks) σ:=propext Iff.rfl
theorem Px {ops ks}:W Φ (.regD ops ks) Q σ=rq Φ ops (Pg Q ks) σ:=propext Iff.rfl
theorem Pv {alts ks}:W Φ (.regE alts ks) Q σ=FA Φ alts (Pg Q ks) σ:=propext Iff.rfl
theorem Pz {c:AO} {a b:AC}:W Φ (.cond c a b) Q σ=cM (σ.ev c) (W Φ a Q) (W Φ b Q) σ:=propext Iff.rfl
theorem Ss {a b:AC}:W Φ (.seq a b) Q σ=W Φ a (Ex.then (W Φ b Q) Q) σ:=propext Iff.rfl
theorem KB:s7 Φ [] K σ=K σ:=propext Iff.rfl
theorem Ir {o:AOp} {os:List AOp}:s7 Φ (o::os) K σ=wop Φ o (s7 Φ os K) σ:=propext Iff.rfl
theorem wop_n {d:Option Nat} {a:Act'}:wop Φ ⟨d,a,none⟩ K σ=af Φ d a K σ:=propext Iff.rfl
theorem KD {d:Option Nat} {a:Act'} {t:Nat} {b:Bool}:wop Φ ⟨d,a,some (t,b)⟩ K σ=gM (lk σ.r t) b (af Φ d a K) (skK d K) σ:=by
 simp only [wop,gM]
 split<;>rename_i heq<;>simp only [heq]<;>rfl
theorem Is:rq Φ [] K σ=K σ:=propext Iff.rfl
theorem Fv {o:AOp} {os:List AOp}:rq Φ (o::os) K σ=aC Φ o (rq Φ os K) σ:=propext Iff.rfl
theorem Qp {d:Option Nat} {a:Act'}:aC Φ ⟨d,a,none⟩ K σ=ag Φ d a K σ:=propext Iff.rfl
theorem Fw {d:Option Nat} {a:Act'} {t:Nat} {b:Bool}:aC Φ ⟨d,a,some (t,b)⟩ K σ=gM (lk σ.r t) b (ag Φ d a K) (skK d K) σ:=by
 simp only [aC,gM]
 split<;>rename_i heq<;>simp only [heq]<;>rfl
theorem Io:f0 Φ .nil K σ=K σ:=propext Iff.rfl
theorem J9 {x:AOp} {t:OT}:f0 Φ (.op x t) K σ=aC Φ x (f0 Φ t K) σ:=propext Iff.rfl
def BC (Φ:Ctr) (a b:OT) (K:St→Prop) (σ:St):Prop:=f0 Φ a K σ∧f0 Φ b K σ
theorem Fu {a b:OT}:f0 Φ (.both a b) K σ=BC Φ a b K σ:=propext Iff.rfl
theorem BC.mk {a b:OT} (h:f0 Φ a K σ) (h':f0 Φ b K σ):BC Φ a b K σ:=⟨h,h'⟩
def OU (Q:Ex→St→Prop) (ks:List Nat) (σ:St):Prop:=Q .norm (σ.nrm ks)
theorem LI {ks:List Nat}:OU Q ks σ=Q .norm (σ.nrm ks):=propext Iff.rfl
theorem Pu {t ks}:W Φ (.regF t ks) Q σ=f0 Φ t (OU Q ks) σ:=propext Iff.rfl
theorem KL:FA Φ [] K σ=True:=propext Iff.rfl
def wallK (Φ:Ctr) (o:List AOp) (os:List (List AOp)) (K:St→Prop) (σ:St):Prop:=s7 Φ o K σ∧FA Φ os K σ
theorem Iv {o:List AOp} {os:List (List AOp)}:FA Φ (o::os) K σ=wallK Φ o os K σ:=propext Iff.rfl
def PO:Act'→Bool
 | .s2b _=>false
 | .lit _ _ _=>false
 | .ltr _ _ _=>false
 | .alc _=>false
 | .box _=>false
 | .st _ _ _=>false
 | .app _ _ _ _ _=>false
 | .mks _ _ _ _ _=>false
 | .mk0 _ _ _ _=>false
 | .mkm _ _ _ _ _=>false
 | .call _ _=>false
 | .callv _ _=>false
 | .callH _ _=>false
 | .mkp _=>false
 | .mup _ _ _ _=>false
 | .inv _ _ _=>false
 | .trc _ _ _=>false
 | .yld _ _=>false
 | .rgs _=>false
 | .nxs _=>false
 | _=>true
theorem cm {a:Act'} (h:PO a=true):af Φ d a K σ=oM (σ.val a) (eu σ d K):=by
 cases a<;>first | (exfalso; revert h; simp only [PO]; decide) | skip
 all_goals
  simp only [af,oM]
  split<;>rename_i heq<;>simp only [heq]<;>rfl
theorem a_mov {x}:af Φ d (.mov x) K σ=oM (σ.val (.mov x)) (eu σ d K):=cm rfl
theorem R3 {x}:ag Φ d (.mov x) K σ=af Φ d (.mov x) K σ:=propext Iff.rfl
theorem RN {x y z}:af Φ d (.pick x y z) K σ=oM (σ.val (.pick x y z)) (eu σ d K):=cm rfl
theorem Pp {x y z}:ag Φ d (.pick x y z) K σ=af Φ d (.pick x y z) K σ:=propext Iff.rfl
theorem a_fld {x y z w}:af Φ d (.fld x y z w) K σ=oM (σ.val (.fld x y z w)) (eu σ d K):=cm rfl
theorem Sg {x y z w}:ag Φ d (.fld x y z w) K σ=af Φ d (.fld x y z w) K σ:=propext Iff.rfl
theorem a_fa {x y}:af Φ d (.fa x y) K σ=oM (σ.val (.fa x y)) (eu σ d K):=cm rfl
theorem aD_fa {x y}:ag Φ d (.fa x y) K σ=af Φ d (.fa x y) K σ:=propext Iff.rfl
theorem a_ia {x y z}:af Φ d (.ia x y z) K σ=oM (σ.val (.ia x y z)) (eu σ d K):=cm rfl
theorem aD_ia {x y z}:ag Φ d (.ia x y z) K σ=af Φ d (.ia x y z) K σ:=propext Iff.rfl
theorem a_iaa {x y z w}:af Φ d (.iaa x y z w) K σ=oM (σ.val (.iaa x y z w)) (eu σ d K):=cm rfl
theorem Sf {x y z w}:ag Φ d (.iaa x y z w) K σ=af Φ d (.iaa x y z w) K σ:=propext Iff.rfl
theorem a_ld {x y z}:af Φ d (.ld x y z) K σ=oM (σ.val (.ld x y z)) (eu σ d K):=cm rfl
theorem aD_ld {x y z}:ag Φ d (.ld x y z) K σ=af Φ d (.ld x y z) K σ:=propext Iff.rfl
theorem a_ixs {x y}:af Φ d (.ixs x y) K σ=oM (σ.val (.ixs x y)) (eu σ d K):=cm rfl
theorem Sd {x y}:ag Φ d (.ixs x y) K σ=af Φ d (.ixs x y) K σ:=propext Iff.rfl
theorem a_ixa {x y z w u}:af Φ d (.ixa x y z w u) K σ=oM (σ.val (.ixa x y z w u)) (eu σ d K):=cm rfl
theorem Se {x y z w u}:ag Φ d (.ixa x y z w u) K σ=af Φ d (.ixa x y z w u) K σ:=propext Iff.rfl
theorem a_bin {x y z}:af Φ d (.bin x y z) K σ=oM (σ.val (.bin x y z)) (eu σ d K):=cm rfl
theorem Sl {x y z}:ag Φ d (.bin x y z) K σ=af Φ d (.bin x y z) K σ:=propext Iff.rfl
theorem a_un {x y}:af Φ d (.un x y) K σ=oM (σ.val (.un x y)) (eu σ d K):=cm rfl
theorem aD_un {x y}:ag Φ d (.un x y) K σ=af Φ d (.un x y) K σ:=propext Iff.rfl
theorem a_cii {x y}:af Φ d (.cii x y) K σ=oM (σ.val (.cii x y)) (eu σ d K):=cm rfl
theorem Si {x y}:ag Φ d (.cii x y) K σ=af Φ d (.cii x y) K σ:=propext Iff.rfl
theorem a_r2s {x}:af Φ d (.r2s x) K σ=oM (σ.val (.r2s x)) (eu σ d K):=cm rfl
theorem RY {x}:ag Φ d (.r2s x) K σ=af Φ d (.r2s x) K σ:=propext Iff.rfl
theorem a_b2s {x}:af Φ d (.b2s x) K σ=oM (σ.val (.b2s x)) (eu σ d K):=cm rfl
theorem Sn {x}:ag Φ d (.b2s x) K σ=af Φ d (.b2s x) K σ:=propext Iff.rfl
theorem a_sls {x y z}:af Φ d (.sls x y z) K σ=oM (σ.val (.sls x y z)) (eu σ d K):=cm rfl
theorem RT {x y z}:ag Φ d (.sls x y z) K σ=af Φ d (.sls x y z) K σ:=propext Iff.rfl
theorem a_slq {x y z w}:af Φ d (.slq x y z w) K σ=oM (σ.val (.slq x y z w)) (eu σ d K):=cm rfl
theorem RU {x y z w}:ag Φ d (.slq x y z w) K σ=af Φ d (.slq x y z w) K σ:=propext Iff.rfl
theorem RO {x}:af Φ d (.lens x) K σ=oM (σ.val (.lens x)) (eu σ d K):=cm rfl
theorem Pq {x}:ag Φ d (.lens x) K σ=af Φ d (.lens x) K σ:=propext Iff.rfl
theorem RP {x}:af Φ d (.lenq x) K σ=oM (σ.val (.lenq x)) (eu σ d K):=cm rfl
theorem Pr {x}:ag Φ d (.lenq x) K σ=af Φ d (.lenq x) K σ:=propext Iff.rfl
theorem a_beq {x y z}:af Φ d (.beq x y z) K σ=oM (σ.val (.beq x y z)) (eu σ d K):=cm rfl
theorem Sm {x y z}:ag Φ d (.beq x y z) K σ=af Φ d (.beq x y z) K σ:=propext Iff.rfl
theorem a_ext {x y}:af Φ d (.ext x y) K σ=oM (σ.val (.ext x y)) (eu σ d K):=cm rfl
theorem Sh {x y}:ag Φ d (.ext x y) K σ=af Φ d (.ext x y) K σ:=propext Iff.rfl
theorem a_bld {x y}:af Φ d (.bld x y) K σ=oM (σ.val (.bld x y)) (eu σ d K):=cm rfl
theorem Sk {x y}:ag Φ d (.bld x y) K σ=af Φ d (.bld x y) K σ:=propext Iff.rfl
theorem a_mkf {x y z}:af Φ d (.mkf x y z) K σ=oM (σ.val (.mkf x y z)) (eu σ d K):=cm rfl
theorem R8 {x y z}:ag Φ d (.mkf x y z) K σ=af Φ d (.mkf x y z) K σ:=propext Iff.rfl
theorem a_nlc {x}:af Φ d (.nlc x) K σ=oM (σ.val (.nlc x)) (eu σ d K):=cm rfl
theorem R1 {x}:ag Φ d (.nlc x) K σ=af Φ d (.nlc x) K σ:=propext Iff.rfl
theorem a_mki {x y}:af Φ d (.mki x y) K σ=oM (σ.val (.mki x y)) (eu σ d K):=cm rfl
theorem R7 {x y}:ag Φ d (.mki x y) K σ=af Φ d (.mki x y) K σ:=propext Iff.rfl
theorem a_aeq {x y z w}:af Φ d (.aeq x y z w) K σ=oM (σ.val (.aeq x y z w)) (eu σ d K):=cm rfl
theorem Sq {x y z w}:ag Φ d (.aeq x y z w) K σ=af Φ d (.aeq x y z w) K σ:=propext Iff.rfl
theorem a_lkp {x y z w u}:af Φ d (.lkp x y z w u) K σ=oM (σ.val (.lkp x y z w u)) (eu σ d K):=cm rfl
theorem Sb {x y z w u}:ag Φ d (.lkp x y z w u) K σ=af Φ d (.lkp x y z w u) K σ:=propext Iff.rfl
theorem a_mm {x y z}:af Φ d (.mm x y z) K σ=oM (σ.val (.mm x y z)) (eu σ d K):=cm rfl
theorem aD_mm {x y z}:ag Φ d (.mm x y z) K σ=af Φ d (.mm x y z) K σ:=propext Iff.rfl
theorem a_nlq {x y z}:af Φ d (.nlq x y z) K σ=oM (σ.val (.nlq x y z)) (eu σ d K):=cm rfl
theorem R0 {x y z}:ag Φ d (.nlq x y z) K σ=af Φ d (.nlq x y z) K σ:=propext Iff.rfl
theorem Sp {x}:ag Φ d (.alc x) K σ=af Φ d (.alc x) K σ:=propext Iff.rfl
theorem Sj {x}:ag Φ d (.box x) K σ=af Φ d (.box x) K σ:=propext Iff.rfl
theorem aD_st {x y z}:ag Φ d (.st x y z) K σ=af Φ d (.st x y z) K σ:=propext Iff.rfl
theorem So {x y z w u}:ag Φ d (.app x y z w u) K σ=af Φ d (.app x y z w u) K σ:=propext Iff.rfl
theorem R4 {x y z w u}:ag Φ d (.mks x y z w u) K σ=af Φ d (.mks x y z w u) K σ:=propext Iff.rfl
theorem R9 {x y z w}:ag Φ d (.mk0 x y z w) K σ=af Φ d (.mk0 x y z w) K σ:=propext Iff.rfl
theorem R6 {x y z w u}:ag Φ d (.mkm x y z w u) K σ=af Φ d (.mkm x y z w u) K σ:=propext Iff.rfl
theorem RW {x}:ag Φ d (.s2b x) K σ=af Φ d (.s2b x) K σ:=propext Iff.rfl
theorem a_alc {z}:af Φ d (.alc z) K σ=K ({ σ with h:=σ.h++[some (Ob.box z)] }.put d (.ptr σ.h.length 0)):=propext Iff.rfl
def RI (σ:St) (x:AO):Option (List V):=match σ.ev x with
 | some v=>if nt v=true then some (cl v) else none
 | none=>none
def boxK (σ:St) (d:Option Nat) (K:St→Prop) (cs:List V):Prop:=K ({ σ with h:=σ.h++[some (Ob.box cs)] }.put d (.ptr σ.h.length 0))
theorem MT {cs:List V}:boxK σ d K cs=K ({ σ with h:=σ.h++[some (Ob.box cs)] }.put d (.ptr σ.h.length 0)):=propext Iff.rfl
theorem a_box {x}:af Φ d (.box x) K σ=oM (RI σ x) (boxK σ d K):=by
 simp only [af,RI]
 cases σ.ev x with
 | none=>rfl
 | some v=>simp only; split<;>rfl
def stV (σ:St) (n:Nat) (p x:AO):Option St:=match σ.ev p,σ.ev x with
 | some a,some v=>if nt v=true then σ.stor n a (cl v) else none
 | _,_=>none
theorem a_st {n p x}:af Φ d (.st n p x) K σ=oM (stV σ n p x) (skK d K):=by
 simp only [af,stV]
 cases σ.ev p with
 | none=>rfl
 | some a=>cases σ.ev x with
   | none=>rfl
   | some v=>
     simp only
     split
     · cases σ.stor n a (cl v)<;>rfl
     · rfl
def QG (σ:St) (x:AO):Option (List UInt8):=match σ.ev x with
 | some (.str s)=>some s
 | _=>none
def s2bK (σ:St) (d:Option Nat) (K:St→Prop) (s:List UInt8):Prop:=rqK (s.length≤140737488355328) K (σ.put d (.seq 1 (fN s)))
theorem Lf {s:List UInt8}:s2bK σ d K s=rqK (s.length≤140737488355328) K (σ.put d (.seq 1 (fN s))):=propext Iff.rfl
theorem a_s2b {x}:af Φ d (.s2b x) K σ=oM (QG σ x) (s2bK σ d K):=by
 simp only [af,QG,oM]
 cases σ.ev x with
 | none=>rfl
 | some v=>cases v<;>rfl
def O1 (σ:St) (d:Option Nat) (sz:Nat) (K:St→Prop) (vs us:List V):Prop:=rqK (bo sz us=true∧us.length≤16777216) K ((σ.kill (ai vs)).put d (.seq sz us))
theorem LY {sz:Nat} {vs us:List V}:O1 σ d sz K vs us=rqK (bo sz us=true∧us.length≤16777216) K ((σ.kill (ai vs)).put d (.seq sz us)):=propext Iff.rfl
def LZ (σ:St) (d:Option Nat) (sz:Nat) (K:St→Prop) (vs:List V):Prop:=oM (purs σ.h vs) (O1 σ d sz K vs)
theorem Jj {sz:Nat} {vs:List V}:LZ σ d sz K vs=oM (purs σ.h vs) (O1 σ d sz K vs):=propext Iff.rfl
theorem a_lit {e sz xs}:af Φ d (.lit e sz xs) K σ=oM (σ.evs xs) (LZ σ d sz K):=by
 simp only [af,oM]
 cases σ.evs xs with
 | none=>rfl
 | some vs=>
   simp only [LZ,oM]
   cases purs σ.h vs with
   | none=>rfl
   | some us=>simp only [O1,rqK,and_assoc]
def HU (σ:St) (d:Option Nat) (sz:Nat) (K:St→Prop) (us:List V):Prop:=rqK (bo sz us=true∧us.length≤16777216) K (σ.put d (.seq sz us))
theorem Jk {sz:Nat} {us:List V}:HU σ d sz K us=rqK (bo sz us=true∧us.length≤16777216) K (σ.put d (.seq sz us)):=propext Iff.rfl
def Gi (σ:St) (d:Option Nat) (sz:Nat) (K:St→Prop) (vs:List V):Prop:=oM (purs [] vs) (HU σ d sz K)
theorem Gh {sz:Nat} {vs:List V}:Gi σ d sz K vs=oM (purs [] vs) (HU σ d sz K):=propext Iff.rfl
theorem Sc {e sz xs}:ag Φ d (.lit e sz xs) K σ=oM (σ.evs xs) (Gi σ d sz K):=by
 simp only [ag,oM]
 cases σ.evs xs with
 | none=>rfl
 | some vs=>
   simp only [Gi,oM]
   cases purs [] vs with
   | none=>rfl
   | some us=>simp only [HU,rqK,and_assoc]
def Hm (σ:St) (x y:AO) (e sz by':Nat):Option (St × V × Nat):=match σ.ev x,σ.ev y with
    | some u,some v=>match src σ.h v with
      | some (.seq sz' l)=>if sz'=sz then
        (match u with
        | .nil _=>some ({ σ with h:=σ.h++[some (Ob.arr e sz l)] },.ref σ.h.length l.length,l.length * by')
        | .ref id n=>match σ.arr? id with
          | some (e',sz',l0)=>if e'=e∧sz'=sz∧n=l0.length then
            some ({ σ with h:=σ.h.set id (some (Ob.arr e sz (l0++l))) },.ref id (n + l.length),(n + l.length) * by') else none
          | none=>none
        | .mref id i n=>match σ.rws? id with
          | some (e1,e2,sz2,rows)=>match aL rows i with
            | some r=>if e2=e∧sz2=sz∧n=r.length then
              some ({ σ with h:=σ.h.set id (some (Ob.mat e1 e2 sz2 (rows.set i (.g r.length))))++[some (Ob.arr e sz (r++l))] },.ref σ.h.length (n + l.length),(n + l.length) * by') else none
            | none=>none
          | none=>none
        | _=>none) else none
      | _=>none
    | _,_=>none
def RM (d:Option Nat) (K:St→Prop) (p:St × V × Nat):Prop:=rqK (p.2.2≤140737488355328) K (p.1.put d p.2.1)
theorem MV {τ:St} {v:V} {n:Nat}:RM d K (τ,v,n)=rqK (n≤140737488355328) K (τ.put d v):=propext Iff.rfl
theorem RR {x y e sz by'} (h:oM (Hm σ x y e sz by') (RM d K)):af Φ d (.app x y e sz by') K σ:=by
 simp only [af,Hm] at h ⊢
 cases hx:σ.ev x with
 | none=>simp only [hx] at h; exact h
 | some u=>cases hy:σ.ev y with
   | none=>simp only [hx,hy] at h; exact h
   | some v=>
     simp only [hx,hy] at h ⊢
     cases hp:src σ.h v with
     | none=>simp only [hp] at h; exact h
     | some w=>
       cases w<;>simp only [hp] at h<;>try exact h
       rename_i sz' l
       split at h
       · rename_i hs
         refine ⟨hs,?_⟩
         cases u<;>simp only at h<;>try exact h
         · rename_i id n
           cases ha:σ.arr? id with
           | none=>simp only [ha] at h; exact False.elim h
           | some p=>
             obtain ⟨e',sz2,l0⟩:=p
             simp only [ha] at h ⊢
             split at h
             · rename_i hc; exact ⟨hc.1,hc.2.1,hc.2.2,h.1,h.2⟩
             · exact h.elim
         · rename_i id i n
           cases ha:σ.rws? id with
           | none=>simp only [ha] at h; exact False.elim h
           | some p=>
             obtain ⟨e',e2',sz2,rows⟩:=p
             simp only [ha] at h ⊢
             cases hr:aL rows i with
             | none=>simp only [hr] at h; exact False.elim h
             | some r=>
               simp only [hr] at h ⊢
               split at h
               · rename_i hc; exact ⟨hc.1,hc.2.1,hc.2.2,h.1,h.2⟩
               · exact h.elim
       · exact h.elim
theorem a_app {x y e sz by'}:af Φ d (.app x y e sz by') K σ=oM (Hm σ x y e sz by') (RM d K):=by
 refine propext ⟨fun h=>?_,RR⟩
 simp only [af] at h
 split at h
 · rename_i u v hu hv
   split at h
   · rename_i sz' l hl
     obtain ⟨h0,h⟩:=h
     subst h0
     split at h
     · simp only [Hm,hu,hv,hl]; exact h
     · rename_i id n
       split at h
       · rename_i e' sz2 l0 ha
         obtain ⟨h1,h2,h3,h4,h5⟩:=h
         simp only [Hm,hu,hv,hl,ha,h1,h2,h3,and_self,if_true]
         exact ⟨by rw [h3] at h4; exact h4,by rw [h3] at h5; exact h5⟩
       · exact h.elim
     · rename_i id i n
       split at h
       · rename_i e1 e2 sz2 rows ha
         split at h
         · rename_i r hr
           obtain ⟨rfl,rfl,rfl,h4,h5⟩:=h
           simp only [Hm,hu,hv,hl,ha,hr,and_self,if_true]
           exact ⟨h4,h5⟩
         · exact h.elim
       · exact h.elim
     · exact h.elim
   · exact h.elim
 · exact h.elim
def Gd (σ:St) (n:AO):Option Int:=match σ.ev n with
 | some (.int _ m)=>some m
 | _=>none
def Rl (σ:St) (d:Option Nat) (e sz by':Nat) (z:V) (K:St→Prop) (m:Int):Prop:=
 rqK (0≤m∧m * by'≤140737488355328) K ({ σ with h:=σ.h++[some (Ob.arr e sz (List.replicate m.toNat z))] }.put d (.ref σ.h.length m.toNat))
theorem LP {e sz by' z} {m:Int}:Rl σ d e sz by' z K m=
 rqK (0≤m∧m * by'≤140737488355328) K ({ σ with h:=σ.h++[some (Ob.arr e sz (List.replicate m.toNat z))] }.put d (.ref σ.h.length m.toNat)):=propext Iff.rfl
theorem a_mks {e sz by' z n}:af Φ d (.mks e sz by' z n) K σ=oM (Gd σ n) (Rl σ d e sz by' z K):=by
 simp only [af,Gd,oM]
 cases σ.ev n with
 | none=>rfl
 | some v=>cases v<;>first | rfl | simp only [Rl,rqK,and_assoc]
def sm (l:List (List V)):List Rw:=l.map .a
theorem QH {l:List (List V)}:(sm l).length=l.length:=by simp [sm]
theorem K9 {l:List (List V)} {i:Nat}:aL (sm l) i=l[i]?:=by
 unfold aL sm
 rw [List.getElem?_map]
 cases l[i]?<;>rfl
theorem wl {sz:Nat}:∀ {l:List (List V)},iD sz (sm l)=some (l.map (.seq sz))
 | []=>rfl
 | r::l=>by
   have:=wl (sz:=sz) (l:=l)
   simp only [sm] at this
   simp [sm,iD,this]
theorem K8 {l:List (List V)} {i:Nat} {r:List V}:(sm l).set i (.a r)=sm (l.set i r):=by simp [sm]
theorem IK {l:List (List V)} {i:Nat}:mT (sm l) i=(l[i]?).map List.length:=by
 unfold mT sm
 rw [List.getElem?_map]
 cases l[i]?<;>rfl
theorem Ou {l:List (List V)} {i k:Nat} (h:i < l.length):mT ((sm l).set i (.g k)) i=some k:=by
 unfold mT
 rw [List.getElem?_set_self (by simpa [sm] using h)]
theorem Ov {l:List (List V)} {i k:Nat} {r:List V}:((sm l).set i (.g k)).set i (.a r)=sm (l.set i r):=by rw [List.set_set,K8]
theorem HA:∀ {l:List (List V)},uP (sm l)=l.all fun r=>dx r
 | []=>rfl
 | r::l=>by
   have:=HA (l:=l)
   simp only [sm] at this
   simp [sm,uP,this]
def OW (σ:St) (d:Option Nat) (e by' e2 sz:Nat) (K:St→Prop) (m:Int):Prop:=
 rqK (0≤m∧m * by'≤140737488355328) K ({ σ with h:=σ.h++[some (Ob.mat e e2 sz (List.replicate m.toNat (.a [])))] }.put d (.ref σ.h.length m.toNat))
theorem LQ {e by' e2 sz} {m:Int}:OW σ d e by' e2 sz K m=
 rqK (0≤m∧m * by'≤140737488355328) K ({ σ with h:=σ.h++[some (Ob.mat e e2 sz (sm (List.replicate m.toNat [])))] }.put d (.ref σ.h.length m.toNat)):=by simp [OW,sm]
def Rm (σ:St) (d:Option Nat) (e sz by':Nat) (K:St→Prop) (m:Int):Prop:=
 rqK (0≤m∧m * by'≤140737488355328) K ({ σ with h:=σ.h++[some (Ob.arr e sz [])] }.put d (.ref σ.h.length 0))
theorem LR {e sz by'} {m:Int}:Rm σ d e sz by' K m=
 rqK (0≤m∧m * by'≤140737488355328) K ({ σ with h:=σ.h++[some (Ob.arr e sz [])] }.put d (.ref σ.h.length 0)):=propext Iff.rfl
theorem a_mk0 {e sz by' n}:af Φ d (.mk0 e sz by' n) K σ=oM (Gd σ n) (Rm σ d e sz by' K):=by
 simp only [af,Gd,oM]
 cases σ.ev n with
 | none=>rfl
 | some v=>cases v<;>first | rfl | simp only [Rm,rqK,and_assoc]
theorem a_mkm {e by' e2 sz n}:af Φ d (.mkm e by' e2 sz n) K σ=oM (Gd σ n) (OW σ d e by' e2 sz K):=by
 simp only [af,Gd,oM]
 cases σ.ev n with
 | none=>rfl
 | some v=>cases v<;>first | rfl | simp only [OW,rqK,and_assoc]
theorem a_mkp {kt}:af Φ d (.mkp kt) K σ=K ({ σ with h:=σ.h++[some (Ob.mp kt [])] }.put d (.ref σ.h.length 0)):=propext Iff.rfl
theorem R5 {kt}:ag Φ d (.mkp kt) K σ=af Φ d (.mkp kt) K σ:=propext Iff.rfl
theorem R2 {x y z w}:ag Φ d (.mup x y z w) K σ=af Φ d (.mup x y z w) K σ:=propext Iff.rfl
def Rk (σ:St) (kt:KT) (x k v:AO):Option St:=match σ.ev x,σ.ev k,σ.ev v with
 | some (.ref id _),some kv,some u=>match σ.mp? id,pur σ.h u with
   | some (kt',l),some u'=>if kt'=kt∧aO kt kv=true∧aq u=[]∧nt u'=true then some { σ with h:=σ.h.set id (some (Ob.mp kt (io kv u' l))) } else none
   | _,_=>none
 | _,_,_=>none
theorem a_mup {kt x k v}:af Φ d (.mup kt x k v) K σ=oM (Rk σ kt x k v) (skK d K):=by
 simp only [af,Rk]
 cases σ.ev x with
 | none=>rfl
 | some a=>
   cases σ.ev k with
   | none=>cases a<;>rfl
   | some b=>
     cases σ.ev v with
     | none=>cases a<;>rfl
     | some c=>
       cases a<;>try rfl
       rename_i id n
       simp only
       cases σ.mp? id with
       | none=>rfl
       | some p=>
         obtain ⟨kt',l⟩:=p
         cases pur σ.h c with
         | none=>rfl
         | some u'=>
           simp only
           by_cases hc:kt'=kt∧aO kt b=true∧aq c=[]∧nt u'=true
           · rw [if_pos hc]
             exact propext ⟨fun h=>h.2.2.2.2,fun h=>⟨hc.1,hc.2.1,hc.2.2.1,hc.2.2.2,h⟩⟩
           · rw [if_neg hc]
             exact propext ⟨fun h=>(hc ⟨h.1,h.2.1,h.2.2.1,h.2.2.2.1⟩).elim,fun h=>h.elim⟩
theorem JD {k:IntKind} {n:Int}:aO ⟨false,[.i k]⟩ (.int k n)=true:=by simp [aO,dA,cl,aZ,kOf,ay]
theorem JC {s:List UInt8}:aO ⟨false,[.s]⟩ (.str s)=true:=by simp [aO,dA,cl,aZ,kOf,ay]
def clK (Φ:Ctr) (d:Option Nat) (f:FuncId) (vs:List V) (σ:St) (K:St→Prop) (us:List V):Prop:=lQ Φ d f vs us K σ
def RE (Φ:Ctr) (d:Option Nat) (f:FuncId) (σ:St) (K:St→Prop) (vs:List V):Prop:=oN (purs σ.h vs) (clK Φ d f vs σ K) (fB Φ d f vs K σ)
theorem Ph {f vs us}:clK Φ d f vs σ K us=lQ Φ d f vs us K σ:=propext Iff.rfl
theorem ME {f vs}:RE Φ d f σ K vs=oN (purs σ.h vs) (clK Φ d f vs σ K) (fB Φ d f vs K σ):=propext Iff.rfl
theorem RQ {f xs}:af Φ d (.call f xs) K σ=oM (σ.evs xs) (RE Φ d f σ K):=by
 simp only [af,oM]
 cases σ.evs xs with
 | none=>rfl
 | some vs=>simp only [RE,oN]; cases purs σ.h vs<;>rfl
def chK (Φ:Ctr) (d:Option Nat) (f:FuncId) (σ:St) (K:St→Prop) (vs:List V):Prop:=fB Φ d f vs K σ
theorem Pi {f vs}:chK Φ d f σ K vs=fB Φ d f vs K σ:=propext Iff.rfl
theorem Po {f xs}:af Φ d (.callH f xs) K σ=oM (σ.evs xs) (chK Φ d f σ K):=by
 simp only [af,oM]
 cases σ.evs xs<;>rfl
def PU (σ:St) (g:AO) (xs:List AO):Option (V × List V × List V × St × Bool):=match σ.ev g,σ.evs xs with
 | some (.ref id _),some vs=>match σ.gh? id,purs σ.h vs with
   | some ((v,b)::l),some us=>some (v,us,vs,{ σ with h:=σ.h.set id (some (Ob.gh l)) },b)
   | _,_=>none
 | _,_=>none
def yldK (d:Option Nat) (K:St→Prop) (p:V × List V × List V × St × Bool):Prop:=p.1=.tup p.2.1∧ai p.2.2.1=[]∧K (p.2.2.2.1.put d (.bool p.2.2.2.2))
theorem J7 {v:V} {us vs:List V} {τ:St} {b:Bool}:yldK d K (v,us,vs,τ,b)=(v=.tup us∧ai vs=[]∧K (τ.put d (.bool b))):=propext Iff.rfl
theorem a_yld {g xs}:af Φ d (.yld g xs) K σ=oM (PU σ g xs) (yldK d K):=by
 simp only [af,PU]
 cases σ.ev g with
 | none=>rfl
 | some u=>
   cases σ.evs xs with
   | none=>cases u<;>rfl
   | some vs=>
     cases u<;>try rfl
     rename_i id n
     simp only
     cases σ.gh? id with
     | none=>rfl
     | some l=>
       cases l with
       | nil=>rfl
       | cons x l=>
         obtain ⟨v,b⟩:=x
         cases purs σ.h vs<;>rfl
theorem RS {g xs}:ag Φ d (.yld g xs) K σ=af Φ d (.yld g xs) K σ:=propext Iff.rfl
def QU (σ:St) (x:AO):Option (St × V):=match σ.ev x with
 | some (.str s)=>some ({ σ with h:=σ.h++[some (Ob.itr s 0)] },.ref σ.h.length 0)
 | _=>none
def QV (d:Option Nat) (K:St→Prop) (p:St × V):Prop:=K (p.1.put d p.2)
theorem Lp {τ:St} {v:V}:QV d K (τ,v)=K (τ.put d v):=propext Iff.rfl
theorem a_rgs {x}:af Φ d (.rgs x) K σ=oM (QU σ x) (QV d K):=by
 simp only [af,QU]
 cases σ.ev x with
 | none=>rfl
 | some u=>cases u<;>rfl
theorem RX {x}:ag Φ d (.rgs x) K σ=af Φ d (.rgs x) K σ:=propext Iff.rfl
def Rc (σ:St) (x:AO):Option (St × V):=match σ.ev x with
 | some (.ref id _)=>match σ.itr? id with
   | some (s,p)=>some (if p < s.length then ({ σ with h:=σ.h.set id (some (Ob.itr s (p + (xY s p).2))) },.tup [.bool true,.int .i64 p,.int .i32 (xY s p).1]) else (σ,.tup [.bool false]))
   | none=>none
 | _=>none
theorem a_nxs {x}:af Φ d (.nxs x) K σ=oM (Rc σ x) (QV d K):=by
 simp only [af,Rc]
 cases σ.ev x with
 | none=>rfl
 | some u=>
   cases u<;>try rfl
   rename_i id n
   simp only
   cases σ.itr? id with
   | none=>rfl
   | some p=>
     obtain ⟨s,p⟩:=p
     simp only [oM]
     split<;>rfl
theorem RZ {x}:ag Φ d (.nxs x) K σ=af Φ d (.nxs x) K σ:=propext Iff.rfl
def MH (Φ:Ctr) (d:Option Nat) (f:FuncId) (vs:List V) (σ:St) (K:St→Prop) (us:List V):Prop:=mI Φ d f vs us K σ
def MG (Φ:Ctr) (d:Option Nat) (f:FuncId) (σ:St) (K:St→Prop) (vs:List V):Prop:=oM (purs σ.h vs) (MH Φ d f vs σ K)
theorem MF {f vs us}:MH Φ d f vs σ K us=mI Φ d f vs us K σ:=propext Iff.rfl
theorem JT {f vs}:MG Φ d f σ K vs=oM (purs σ.h vs) (MH Φ d f vs σ K):=propext Iff.rfl
theorem Ps {f xs}:ag Φ d (.call f xs) K σ=oM (σ.evs xs) (MG Φ d f σ K):=by
 simp only [ag,oM]
 cases σ.evs xs with
 | none=>rfl
 | some vs=>simp only [MG,oM]; cases purs σ.h vs<;>rfl
def fnV (σ:St) (g:AO) (xs:List AO):Option (FuncId × List V):=match σ.ev g,σ.evs xs with
 | some (.fn (.func f) a b),some vs=>some (f,a++vs++b)
 | _,_=>none
def cvK (Φ:Ctr) (d:Option Nat) (σ:St) (K:St→Prop) (p:FuncId × List V):Prop:=oN (purs σ.h p.2) (clK Φ d p.1 p.2 σ K) (fB Φ d p.1 p.2 K σ)
def Rr (σ:St) (tbl:List (Nat × FuncId)) (x:AO) (xs:List AO):Option (FuncId × List V):=match σ.ev x,σ.evs xs with
 | some (.iface t v),some vs=>match lkF tbl t with
   | some f=>some (f,v::vs)
   | none=>none
 | _,_=>none
theorem a_inv {tbl x xs}:af Φ d (.inv tbl x xs) K σ=oM (Rr σ tbl x xs) (cvK Φ d σ K):=by
 simp only [af,Rr]
 cases σ.ev x with
 | none=>rfl
 | some a=>
   cases σ.evs xs with
   | none=>cases a<;>rfl
   | some vs=>
     cases a<;>try rfl
     rename_i t v
     simp only
     cases lkF tbl t with
     | none=>rfl
     | some f=>simp only [oM,cvK,oN]; cases purs σ.h (v::vs)<;>rfl
theorem Pf {f vs}:cvK Φ d σ K (f,vs)=oN (purs σ.h vs) (clK Φ d f vs σ K) (fB Φ d f vs K σ):=propext Iff.rfl
theorem Pn {g xs}:af Φ d (.callv g xs) K σ=oM (fnV σ g xs) (cvK Φ d σ K):=by
 simp only [af,fnV,oM]
 cases σ.ev g with
 | none=>rfl
 | some v=>
   cases v with
   | fn f a b=>
     cases f<;>cases σ.evs xs<;>try rfl
     rename_i vs
     simp only [cvK,oN]
     cases purs σ.h (a++vs++b)<;>rfl
   | _=>rfl
def RB (Φ:Ctr) (d:Option Nat) (σ:St) (K:St→Prop) (p:FuncId × List V):Prop:=oM (purs σ.h p.2) (MH Φ d p.1 p.2 σ K)
theorem MB {f vs}:RB Φ d σ K (f,vs)=oM (purs σ.h vs) (MH Φ d f vs σ K):=propext Iff.rfl
theorem M6 {g xs}:ag Φ d (.callv g xs) K σ=oM (fnV σ g xs) (RB Φ d σ K):=by
 simp only [ag,fnV,oM]
 cases σ.ev g with
 | none=>rfl
 | some v=>
   cases v with
   | fn f a b=>
     cases f<;>cases σ.evs xs<;>try rfl
     rename_i vs
     simp only [RB,oM]
     cases purs σ.h (a++vs++b)<;>rfl
   | _=>rfl
end
def Lr (post:V→Prop) (us:List V):Prop:=post (ii us)
theorem Lq {post:V→Prop} {us:List V}:Lr post us=post (ii us):=propext Iff.rfl
def DS (post:V→Prop) (σ:St) (vs:List V):Prop:=oM (purs σ.h vs) (Lr post)
theorem IT {post:V→Prop} {σ:St} {vs:List V}:DS post σ vs=oM (purs σ.h vs) (Lr post):=propext Iff.rfl
theorem M9 {rs:List RV} {post:V→Prop} {σ:St}:Res rs post .norm σ=oM (σ.rvs rs) (DS post σ):=by
 unfold Res DS oM
 cases σ.rvs rs with
 | none=>simp
 | some vs=>simp only; cases purs σ.h vs<;>simp [Lr]
theorem PA {rs:List RV} {post:V→Prop} {σ:St}:Res rs post .ret σ=oM (σ.rvs rs) (DS post σ):=by
 unfold Res DS oM
 cases σ.rvs rs with
 | none=>simp
 | some vs=>simp only; cases purs σ.h vs<;>simp [Lr]
def DU (σ:St) (ps:List Nat) (us:List V) (r:V) (H':List (Option Ob)) (vs:List V):Prop:=DT σ ps us r H' vs (dY σ.h (rP (pk σ.r ps)) vs).2
theorem IU {σ:St} {ps:List Nat} {us:List V} {r:V} {H':List (Option Ob)} {vs:List V}:DU σ ps us r H' vs=DT σ ps us r H' vs (dY σ.h (rP (pk σ.r ps)) vs).2:=propext Iff.rfl
theorem J6 {rs:List RV} {σ:St} {ps:List Nat} {us:List V} {r:V} {H':List (Option Ob)}:Fp rs ps us r H' .norm σ=oM (σ.rvs rs) (DU σ ps us r H'):=by
 unfold Fp oM
 cases σ.rvs rs<;>simp [DU]
theorem Nb {rs:List RV} {σ:St} {ps:List Nat} {us:List V} {r:V} {H':List (Option Ob)}:Fp rs ps us r H' .ret σ=oM (σ.rvs rs) (DU σ ps us r H'):=by
 unfold Fp oM
 cases σ.rvs rs<;>simp [DU]
section
variable {Φ:Ctr} {σ:St} {K:St→Prop} {d:Option Nat}
def Rt (σ:St) (d:Option Nat) (K:St→Prop) (q:Nat) (m:List Nat) (r:V) (H':List (Option Ob)):Prop:=K (St.put ⟨σ.r,σ.back q m H'⟩ d (bck (t6 q m σ.h.length H'.length) r))
theorem Mg {q:Nat} {m:List Nat} {r:V} {H':List (Option Ob)}:Rt σ d K q m r H'=K (St.put ⟨σ.r,σ.back q m H'⟩ d (bck (t6 q m σ.h.length H'.length) r)):=propext Iff.rfl
theorem ah (ps:List Nat) (q:Nat) (m:List Nat) {f:FuncId} {vs us:List V} {H H':List (Option Ob)} {r:V} (hc:σ.curs (bH vs ps)=true) (hl:dY σ.h (bH vs ps) vs=(q,m)) (hu:cW m vs=us) (hH:fD σ.h m m=H)
 (h:Φ.e f ps us H r H') (hk:kin q H H'=true) (k:ok r→okH H'→Rt σ d K q m r H'):fB Φ d f vs K σ:=by
 refine ⟨ps,hc,r,H',?_,?_,?_⟩
 · rw [hl,hH]; exact hk
 · rw [hl,hu,hH]; exact h
 · rw [hl]; exact k
end
def DR (r:V) (us:List V):Prop:=ii us=r
theorem IS {r:V} {us:List V}:DR r us=(ii us=r):=propext Iff.rfl
def wv (r:V) (σ:St) (vs:List V):Prop:=xD σ.h vs=true∧oM (purs σ.h vs) (DR r)
theorem F2 {r:V} {σ:St} {vs:List V}:wv r σ vs=(xD σ.h vs=true∧oM (purs σ.h vs) (DR r)):=propext Iff.rfl
theorem J5 {rs:List RV} {r:V} {σ:St}:Dw rs r .norm σ=oM (σ.rvs rs) (wv r σ):=by
 unfold Dw wv oM
 cases σ.rvs rs with
 | none=>simp
 | some vs=>simp only; cases purs σ.h vs<;>simp [DR]
theorem Na {rs:List RV} {r:V} {σ:St}:Dw rs r .ret σ=oM (σ.rvs rs) (wv r σ):=by
 unfold Dw wv oM
 cases σ.rvs rs with
 | none=>simp
 | some vs=>simp only; cases purs σ.h vs<;>simp [DR]
theorem tupV0:ii []=.tup []:=rfl
theorem tupV1 {v:V}:ii [v]=v:=rfl
theorem tupV2 {v w:V} {l:List V}:ii (v::w::l)=.tup (v::w::l):=rfl
attribute [simp] Io J9 Fu LI Pu Py Sv IC Cm Jp L4 Jr Jq Sr Su Px Pv Ss Ii Sw W_ret Pz An ID KU Cl Es sf Ft Bx BrK_t BrK_f BrK_n rqK_t Lj OP OR Pl O8 Mi Ru MD Ox Ly KB Ir wop_n KD Is Fv Qp Fw KL Iv MT Lf LY Jj Jk Gh MV LP LR LQ QH K9 IK Ou Ov wl K8 HA a_mkm a_yld RS J7 a_rgs RX a_nxs RZ Lp a_mkp R5 R2 a_mup a_inv JD JC Ph ME MF JT Pf MB Lq IT ON OO Pi fz fzs Po IU J6 Nb Mg IS F2 J5 Na jk jks fre xD a_mov RN a_fld a_fa a_ia a_iaa a_ld a_ixs a_ixa a_bin a_un a_cii a_r2s a_b2s a_sls a_slq RO RP a_beq a_ext a_bld a_mkf a_nlc a_mki a_aeq a_lkp a_mm a_nlq R3 Pp Sg aD_fa aD_ia Sf aD_ld Sd Se Sl aD_un Si RY Sn RT RU Pq Pr Sm Sh Sk R8 R1 R7 Sq Sb aD_mm R0 Sp Sj aD_st So R4 R9 R6 RW a_alc a_box a_st a_s2b a_lit a_app a_mks a_mk0 RQ Pn Sc Ps M6 RI stV QG Hm Gd fnV Rk Rr PU St.gh? QU Rc St.itr? lkF M9 PA tupV0 tupV1 tupV2 St.ev St.evs St.evo St.val St.put lk pk St.fetch St.box? St.arr? St.rws? St.mp? cut eA cl mkc Ok Qu St.live St.fwd St.stor St.storM St.kill bldV isS nt bY dx aq ai pur purs pur1 pur2 src uP FL bo cz ip St.nrm QT tH BS ren cW fD dN et idx St.mats St.mat ent St.rv St.rvs ok oks okH bH St.cur St.curA St.cur0 St.curs dY bck kM j9 Dr wr t6 St.back DT rP AH kin
theorem kP (n:Int) (h1:-9223372036854775808≤n) (h2:n≤9223372036854775807):IntKind.i64.wrap n=n:=by
 rw [Go.IntKind.wrap_i64]; omega
theorem max64:IntKind.i64.max=9223372036854775807:=by decide
theorem min64:IntKind.i64.min=-9223372036854775808:=by decide
theorem maxU8:IntKind.u8.max=255:=by decide
theorem minU8:IntKind.u8.min=0:=by decide
theorem BB (n:Int) (h1:0≤n) (h2:n≤255):IntKind.u8.wrap n=n:=by
 rw [Go.IntKind.wrap_u8]; omega
theorem rp (n:Int) (h1:-2147483648≤n) (h2:n≤2147483647):IntKind.i32.wrap n=n:=by
 rw [Go.IntKind.wrap_i32]; omega
theorem QE {a b:Int} (h1:-9223372036854775808≤a + b) (h2:a + b≤9223372036854775807):bR .add .i64 a b=some (.int .i64 (a + b)):=by simp only [bR,kP _ h1 h2]
theorem Qs {a b:Int} (h1:-9223372036854775808≤a - b) (h2:a - b≤9223372036854775807):bR .sub .i64 a b=some (.int .i64 (a - b)):=by simp only [bR,kP _ h1 h2]
theorem Qy {a b:Int} (h1:-9223372036854775808≤a * b) (h2:a * b≤9223372036854775807):bR .mul .i64 a b=some (.int .i64 (a * b)):=by simp only [bR,kP _ h1 h2]
theorem vadd8 {a b:Int} (h1:0≤a + b) (h2:a + b≤255):bR .add .u8 a b=some (.int .u8 (a + b)):=by simp only [bR,BB _ h1 h2]
theorem vsub8 {a b:Int} (h1:0≤a - b) (h2:a - b≤255):bR .sub .u8 a b=some (.int .u8 (a - b)):=by simp only [bR,BB _ h1 h2]
theorem QF {a b:Int} (h1:-2147483648≤a + b) (h2:a + b≤2147483647):bR .add .i32 a b=some (.int .i32 (a + b)):=by simp only [bR,rp _ h1 h2]
theorem Qt {a b:Int} (h1:-2147483648≤a - b) (h2:a - b≤2147483647):bR .sub .i32 a b=some (.int .i32 (a - b)):=by simp only [bR,rp _ h1 h2]
theorem Qz {a b:Int} (h1:-2147483648≤a * b) (h2:a * b≤2147483647):bR .mul .i32 a b=some (.int .i32 (a * b)):=by simp only [bR,rp _ h1 h2]
theorem QB {n:Int} (h1:-9223372036854775808≤n) (h2:n≤9223372036854775807):BF .i64 n=some (.int .i64 n):=by simp only [BF,kP _ h1 h2]
theorem vcii8 {n:Int} (h1:0≤n) (h2:n≤255):BF .u8 n=some (.int .u8 n):=by simp only [BF,BB _ h1 h2]
theorem Hw {n:Int} (h1:0≤n) (h2:n < 128):KN n=some (.str [UInt8.ofNat n.toNat]):=by simp only [KN,if_pos (And.intro h1 h2)]
theorem QC {n:Int} (h1:-2147483648≤n) (h2:n≤2147483647):BF .i32 n=some (.int .i32 n):=by simp only [BF,rp _ h1 h2]
theorem Qx {n:Int} (h1:-9223372036854775808≤0 - n) (h2:0 - n≤9223372036854775807):vun .neg (.int .i64 n)=some (.int .i64 (0 - n)):=by simp only [vun,kP _ h1 h2]
attribute [simp high] QE Qs Qy vadd8 vsub8 QF Qt Qz QB vcii8 QC Hw Qx
theorem Qw {a b:Int} (h0:0≤a) (h1:0 < b) (h2:a≤9223372036854775807):bR .quo .i64 a b=some (.int .i64 (a / b)):=by
 have h3:0≤a / b:=Int.ediv_nonneg h0 (by omega)
 have h4:a / b≤a:=Int.ediv_le_self _ h0
 simp only [bR]
 rw [if_neg (by omega),Int.tdiv_eq_ediv_of_nonneg h0,kP _ (by omega) (by omega)]
theorem Qv {k:IntKind} {a b:Int} (h0:0≤a) (h1:0 < b):bR .rem k a b=some (.int k (a % b)):=by
 simp only [bR]
 rw [if_neg (by omega),Int.tmod_eq_emod_of_nonneg h0]
theorem vremt {k:IntKind} {a b:Int} (h1:b≠0):bR .rem k a b=some (.int k (a.tmod b)):=by
 simp only [bR]
 rw [if_neg h1]
theorem veql {k:IntKind} {a b:Int}:bR .eql k a b=some (.bool (decide (a=b))):=rfl
theorem vneq {k:IntKind} {a b:Int}:bR .neq k a b=some (.bool (!decide (a=b))):=rfl
theorem vlss {k:IntKind} {a b:Int}:bR .lss k a b=some (.bool (decide (a < b))):=rfl
theorem vleq {k:IntKind} {a b:Int}:bR .leq k a b=some (.bool (decide (a≤b))):=rfl
theorem vgtr {k:IntKind} {a b:Int}:bR .gtr k a b=some (.bool (decide (b < a))):=rfl
theorem vgeq {k:IntKind} {a b:Int}:bR .geq k a b=some (.bool (decide (b≤a))):=rfl
theorem vnot {b:Bool}:vun .not (.bool b)=some (.bool !b):=rfl
attribute [simp high] Qw Qv
attribute [simp] veql vneq vlss vleq vgtr vgeq vnot vremt kP BB rp max64 min64 maxU8 minU8
theorem Re (m n:Nat):((no_index (@OfNat.ofNat Int m instOfNat))≤(n:Int))↔(@OfNat.ofNat Nat m (instOfNatNat m))≤n:=Int.ofNat_le
theorem Rp (m n:Nat):((n:Int)≤(no_index (@OfNat.ofNat Int m instOfNat)))↔n≤(@OfNat.ofNat Nat m (instOfNatNat m)):=Int.ofNat_le
theorem Rd (m n:Nat):((no_index (@OfNat.ofNat Int m instOfNat)) < (n:Int))↔(@OfNat.ofNat Nat m (instOfNatNat m)) < n:=Int.ofNat_lt
theorem Ro (m n:Nat):((n:Int) < (no_index (@OfNat.ofNat Int m instOfNat)))↔n < (@OfNat.ofNat Nat m (instOfNatNat m)):=Int.ofNat_lt
theorem Rf (m n:Nat):((no_index (@OfNat.ofNat Int m instOfNat))=(n:Int))↔(@OfNat.ofNat Nat m (instOfNatNat m))=n:=Int.ofNat_inj
theorem Rz (m n:Nat):((n:Int)=(no_index (@OfNat.ofNat Int m instOfNat)))↔n=(@OfNat.ofNat Nat m (instOfNatNat m)):=Int.ofNat_inj
attribute [simp] Re Rp Rd Ro Rf Rz
theorem get0 {α:Type} {x:α} {l:List α}:(x::l)[0]?=some x:=rfl
attribute [simp] get0
theorem ite_t {p:Prop} [Decidable p] {α:Sort _} {a b:α} (h:p):(if p then a else b)=a:=if_pos h
theorem ite_f {p:Prop} [Decidable p] {α:Sort _} {a b:α} (h:¬p):(if p then a else b)=b:=if_neg h
attribute [simp] ite_t ite_f
theorem oV {α:Type} {l:List α} {k:Nat} {x:α} (h:l[k]?=some x):l.drop k=x::l.drop (k + 1):=by
 obtain ⟨h1,h2⟩:=List.getElem?_eq_some_iff.1 h
 rw [List.drop_eq_getElem_cons h1,h2]
theorem ap {α:Type} {l:List α} {k:Nat} (h:k < l.length):∃ x,l[k]?=some x:=⟨_,List.getElem?_eq_getElem h⟩
theorem place {α:Type} (l:List α) (k:Nat) (h:k≤l.length):(k=l.length∧l.drop k=[])∨(k < l.length∧∃ x,l[k]?=some x∧l.drop k=x::l.drop (k + 1)):=by
 rcases Nat.lt_or_ge k l.length with h' | h'
 · obtain ⟨x,hx⟩:=ap h'
   exact .inr ⟨h',x,hx,oV hx⟩
 · have:k=l.length:=by omega
   exact .inl ⟨this,by simp [this]⟩
def Hid (p:Prop):Prop:=p
theorem Hid.out {p:Prop} (h:Hid p):p:=h
theorem hid {p:Prop} (h:p):Hid p:=h
end Go.Abs
end
