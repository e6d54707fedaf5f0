/- How two policies stand to one another. No condition. -/
import Derived.Test.YtbekkicfbnaaaaaGreatDoorVKE
set_option linter.all false
section
set_option maxHeartbeats 4000000
set_option maxRecDepth 100000
namespace Go.Abs.F
open Go.Proofs
section
variable{m : Mch}{D : Nat -> Nat -> Prop}{E : Nat -> Prop}
structure AllD (D : Nat -> Nat -> Prop) (E : Nat -> Prop) (S : FSK) : Prop where
  q : ∀s ∈ S.q,D s.num s.st
  met : ∀n r,S.met[n]? = some r -> ∀s ∈ r,D n s
  trees : ∀t ∈ S.trees,E t
variable(hn : ∀n s t,D n s -> E t -> D n (m.next n s t))(ho : ∀n s,n≠m.labels -> D n s -> E (m.out n s))
theorem AllD.put{S : FSK}(H : AllD D E S){s : Stp}(hs : D s.num s.st) : AllD D E (putP S s) := by
  have key : ∀mk,AllD D E { S with marks := mk,q := pushS S.q s } := λmk =>
    ⟨λx hx => by
      rcases List.mem_cons.1 ((pushS_perm _ _).mem_iff.1 hx)with h|h
      ·subst h;exact hs
      ·exact H.q x h,H.met,H.trees⟩
  unfold putP;split
  ·split
   ·exact H
   ·exact key _
  ·exact key _
include hn in
theorem AllD.goOn{S : FSK}(H : AllD D E S){p : Nat×Nat}(hp : D p.1 p.2){t : Nat}(ht : E t) : AllD D E (goOnP m p S t) := H.put (hn _ _ _ hp ht)
theorem putP_same(S : FSK)(s : Stp) : (putP S s).met = S.met /\ (putP S s).trees = S.trees := by
  unfold putP;split
  ·split <;> exact⟨rfl,rfl⟩
  ·exact⟨rfl,rfl⟩
include hn in
theorem AllD.goOns{p : Nat×Nat}(hp : D p.1 p.2) : ∀(l : List Nat){S : FSK},(∀t ∈ l,E t) -> AllD D E S -> AllD D E (goOnsP m p S l)
  |[],S,_,H => H
  |t :: l,S,h,H => AllD.goOns hp l (λx hx => h x (by simp[hx])) (H.goOn hn hp (h t (by simp)))
include hn in
theorem AllD.tellR{n t : Nat}(ht : E t) : ∀(l : List Nat){S : FSK},(∀s ∈ l,D n s) -> AllD D E S -> AllD D E (tellRow m n t S l)
  |[],S,_,H => H
  |s :: l,S,h,H => AllD.tellR ht l (λx hx => h x (by simp[hx])) (H.goOn hn (p := (n,s)) (h s (by simp)) ht)
include hn in
theorem AllD.tellRs{t : Nat}(ht : E t) : ∀(l : List (List Nat)){n : Nat}{S : FSK},(∀k r,l[k]? = some r -> ∀s ∈ r,D (n+k) s) -> AllD D E S -> AllD D E (tellRows m t n S l)
  |[],n,S,_,H => H
  |r :: l,n,S,h,H => AllD.tellRs ht l (λk x hx => by have := h (k+1) x (by simpa using hx);rwa[show n+(k+1) = n+1+k by omega]at this) (H.tellR hn ht r (λs hs => by simpa using h 0 r rfl s hs))
include hn ho in
theorem AllD.step{S : FSK}(H : AllD D E S){s : Stp}(hs : D s.num s.st) : AllD D E (stepPK m S s) := by
  have H1 : AllD D E { S with marks := aput s.pl (s,true) S.marks,met := S.met.set s.num ((S.met[s.num]?).getD [] ++ [s.st]) } := ⟨H.q,λn r hr x hx => by
    rw[List.getElem?_set]at hr;split at hr
    ·rename_i e
     split at hr
     ·cases hr
      rcases List.mem_append.1 hx with hx|hx
      ·cases hm : S.met[s.num]? with
       |none => rw[hm]at hx;cases hx
       |some r0 => rw[hm]at hx;subst e;exact H.met _ _ hm x hx
      ·simp at hx;subst hx;subst e;exact hs
     ·cases hr
    ·exact H.met n r hr x hx,H.trees⟩
  have H2 := AllD.goOns hn (p := s.pl) hs _ (λt ht => H1.trees t ht) H1
  unfold stepPK;simp only;split
  ·rename_i hc
   have hE := ho _ _ hc.1 hs
   have H3 : AllD D E { (goOnsP m s.pl { S with marks := aput s.pl (s,true) S.marks,met := S.met.set s.num ((S.met[s.num]?).getD [] ++ [s.st]) } S.trees)with found := aput (m.out s.num s.st) ⟨s.num,s.st,addC s.cost 1⟩ (goOnsP m s.pl { S with marks := aput s.pl (s,true) S.marks,met := S.met.set s.num ((S.met[s.num]?).getD [] ++ [s.st]) } S.trees).found,trees := (goOnsP m s.pl { S with marks := aput s.pl (s,true) S.marks,met := S.met.set s.num ((S.met[s.num]?).getD [] ++ [s.st]) } S.trees).trees ++ [m.out s.num s.st] } :=
     ⟨H2.q,H2.met,λt ht => by
       rcases List.mem_append.1 ht with ht|ht
       ·exact H2.trees t ht
       ·simp at ht;subst ht;exact hE⟩
   exact AllD.tellRs hn hE _ (λk r hr s hs => by rw[Nat.zero_add];exact H2.met k r hr s hs) H3
  ·exact H2
theorem AllD.take{S : FSK}(H : AllD D E S)(h : S.q.length≠0) : D (takeP S).1.num (takeP S).1.st /\ AllD D E (takeP S).2 := by
  have hp := take_perm (l := S.q) (by omega)
  refine⟨H.q _ (hp.mem_iff.1 (List.mem_cons_self ..)),⟨λx hx => H.q x (hp.mem_iff.1 (List.mem_cons_of_mem _ hx)),H.met,H.trees⟩⟩
include hn ho in
theorem AllD.run : ∀(f : Nat){S : FSK}{e : Stp}{S' : FSK},AllD D E S -> runP m f S = some (some e,S') -> D e.num e.st /\ e.num = m.labels /\ m.out e.num e.st = 1
  |0,S,e,S',H,h => by simp[runP]at h
  |f+1,S,e,S',H,h => by
    rw[runP]at h;split at h
    ·cases h
    ·rename_i h0
     obtain⟨h1,h2⟩ := H.take h0;split at h
     ·exact AllD.run f h2 h
     ·split at h
      ·rename_i h3
       cases h;exact⟨h1,h3⟩
      ·exact AllD.run f (h2.step hn ho h1) h
theorem AllD.start{N : Nat}(h0 : ∀n,n<N -> D n 0) : ∀(k : Nat){S : FSK}{n : Nat},n+k <= N -> AllD D E S -> AllD D E (beginS k S n)
  |0,S,n,_,H => H
  |k+1,S,n,hk,H => AllD.start h0 k (by omega) (H.put (s := ⟨n,0,0,-1,-1⟩) (h0 n (by omega)))
theorem AllD.begin{k : Nat}(h0 : ∀n,n<k -> D n 0) : AllD D E (beginP k) :=
  AllD.start h0 k (by omega) ⟨λs h => (by cases h),λn r hr s hs => (by
    have := List.mem_of_getElem? hr;rw[List.mem_replicate]at this;rw[this.2]at hs;cases hs),λt h => (by cases h)⟩
end
theorem dg_div{a B : Nat}(hab : a<B) : (a*B+a)/B = a /\ (a*B+a)%B = a := by
  have hB : 0<B := by omega
  refine⟨?_,?_⟩
  ·rw[Nat.mul_comm,Nat.mul_add_div hB,Nat.div_eq_of_lt hab,Nat.add_zero]
  ·rw[Nat.mul_comm,Nat.mul_add_mod,Nat.mod_eq_of_lt hab]
theorem self_none{h : HedgeP}(H : SoundP h){f : Nat}{res : Option (List Tr)}(hl : leastP (togM h (notP h)) f = some res) : res = none := by
  have hs : ∀n,(sideAt (notP h) n).out.length = (sideAt h n).out.length := λn => by
    unfold sideAt;rw[show(notP h).labels = h.labels from rfl]
    cases h.labels[n]? <;> simp[notP]
  have hx : ∀n,(sideAt (notP h) n).next = (sideAt h n).next := λn => by
    unfold sideAt;rw[show(notP h).labels = h.labels from rfl]
    cases h.labels[n]? <;> simp[notP]
  have hnx : ∀n a u,nextAt (sideAt (notP h) n) a u = nextAt (sideAt h n) a u := λn a u => by unfold nextAt;rw[hx]
  have ho : ∀n,n<h.labels.length -> sideAt (notP h) n = sideAt h n := λn hn => by
    obtain⟨s,hs⟩ := av hn;unfold sideAt;rw[show(notP h).labels = h.labels from rfl,hs]
    rfl
  have hT : (notP h).states = h.states := rfl;have hpos := H.pos;have hB := λn => (H.side n).pos
  unfold leastP at hl;split at hl
  ·cases hl
  ·cases hl;rfl
  ·rename_i e S hR
   exfalso;have A := AllD.run (m := togM h (notP h)) (D := λn s => n <= h.labels.length /\ ∃a,a<(sideAt h n).out.length /\ s = a*(sideAt h n).out.length+a) (E := λt => ∃u,u<h.states /\ t = u*h.states+u) ?_ ?_ f (AllD.begin (λn hn => ⟨by simp only[togM]at hn;omega,0,hB n,by simp⟩)) hR
   ·obtain⟨⟨_,a,ha,hst⟩,h1,h2⟩ := A
    simp only[togM]at h1 h2;rw[if_pos h1,hs,hst,(dg_div ha).1,(dg_div ha).2]at h2;have r1 : sideAt h e.num = h.root := by unfold sideAt;rw[List.getElem?_eq_none (by omega)];rfl
    have r2 : sideAt (notP h) e.num = (notP h).root := by unfold sideAt;rw[List.getElem?_eq_none (by rw[show(notP h).labels = h.labels from rfl];omega)];rfl
    rw[r1]at ha;rw[r1,r2]at h2;obtain⟨o,hoo⟩ := av ha;have ho2 := H.root.out o (List.mem_of_getElem? hoo);have e2 : (notP h).root.out[a]? = some (flipO o) := by simp[notP,List.getElem?_map,hoo]
    unfold outAt at h2;rw[hoo,e2]at h2;simp only[Option.getD_some]at h2;rcases(show o = 0 \/ o = 1 by omega)with rfl|rfl <;> simp[flipO]at h2
   ·rintro n s t ⟨hn,a,ha,rfl⟩ ⟨u,hu,rfl⟩
    refine⟨hn,?_⟩;simp only[togM];rw[hs,hT,(dg_div ha).1,(dg_div ha).2,(dg_div hu).1,(dg_div hu).2,hnx];obtain⟨r,x,e1,e2,e3⟩ := (H.side n).next ha hu;have e4 : nextAt (sideAt h n) a u = x := by simp[nextAt,e1,e2]
    rw[e4];exact⟨x,e3,rfl⟩
   ·rintro n s hn ⟨hn2,a,ha,rfl⟩
    have hn' : n<h.labels.length := by
      simp only[togM]at hn;omega
    simp only[togM];rw[if_neg (by omega),hs,hT,(dg_div ha).1,(dg_div ha).2,ho n hn']
    obtain⟨x,e1,e3⟩ := (H.side n).tell ha;rw[if_pos hn']at e3;have e4 : outAt (sideAt h n) a = x := by simp[outAt,e1]
    rw[e4];exact⟨x,e3,rfl⟩
end Go.Abs.F
end
section
set_option maxHeartbeats 4000000
set_option maxRecDepth 100000
namespace Go.Abs.F
open Go.Proofs Go.Aut
attribute [-simp] getElem?_pos Option.not_isSome List.map_map
theorem hedge_same(p : Policy){L : List Label}{f g : Label -> Bool}(h : ∀b ∈ L,f b = g b) : ba p L f = ba p L g := by
  unfold ba;congr 1;refine List.ext_getElem? λi => ?_
  rw[List.getElem?_mapIdx,List.getElem?_mapIdx];cases hb : L[i]? with
  |none => rfl
  |some b =>
    have e := h b (List.mem_of_getElem? hb);have hg : qj f b = qj g b := by simp only[qj,e]
    simp only[Option.map_some,eo,jM,hg]
theorem self_res{p : Policy}{L : List Label}(h : ∀b ∈ L,b.one = b.two){res : Option (List Tr)}(H : CommonR (firstH p L) (otherH p L) res) : res = none := by
  obtain⟨f,hf⟩ := common_least H;unfold firstH otherH at hf;rw[<- hedge_same p (f := Label.one) (g := Label.two) h]at hf;exact self_none (hedge_soundP _ _ _) hf
end Go.Abs.F
end
section
set_option maxHeartbeats 4000000
set_option maxRecDepth 100000
namespace Go.Abs.F
open Go.Proofs Go.Aut
attribute [-simp] getElem?_pos Option.not_isSome List.map_map
theorem cellG_self{f : Str -> Bool}{f1 f2 : Bool}(hn : f1≠f2) : ∀{r : Option (List Nat)},uT f f f1 f2 r -> r = none
  |none,_ => rfl
  |some w,h => absurd (h.2.1.symm.trans h.2.2.1) hn
theorem atR_self(p : Policy)(hp : ∀el nm c,dp p el nm = some c -> ∃x,GoodC c x)(el nm : Str) : ∀l ∈ atR p p el nm,l.one = l.two := by
  obtain⟨r0,r1,r2,r3,c0,c1,c2,c3,_⟩ := xf p p el (aG (aP p p el) nm) (hp el _) (hp el _);unfold atR;rw[mj c0,mj c1,mj c2,mj c3,cellG_self (by decide) c1,cellG_self (by decide) c2]
  intro l hl;cases r0 <;> cases r3 <;> simp[it,lab]at hl <;> first|(rcases hl with rfl|rfl <;> rfl)|(subst hl;rfl)
theorem labelsP_self (p : Policy) (hp : ∀ el nm c, dp p el nm = some c → ∃ x, GoodC c x) : ∀ l ∈ fO p p (atR p p), l.one = l.two := by
  intro l hl
  simp only [fO, List.mem_append, List.mem_cons, List.not_mem_nil, or_false, List.mem_flatMap, bC] at hl
  rcases hl with (rfl | rfl) | ⟨el, _, rfl | ⟨nm, _, h⟩⟩
  · rfl
  · rfl
  · rfl
  · exact atR_self p hp el nm l h
def conT(res : Option (List Tr)) : Bool := res.isNone
def standI(x y : Bool) : Int := if x = true then(if y = true then 1 else 2)else if y = true then 3 else 4
theorem f_diff{p q : Policy}{L L' : List Label}{r s : Option (List Tr)}(h1 : Fn Tryz.prog n_compare_verdict [p.v,q.v] (verdV L r))(h2 : Fn Tryz.prog n_compare_verdict [q.v,p.v] (verdV L' s)) : Fn Tryz.prog n_compare_Diff [p.v,q.v] (.int .i64 (standI r.isNone s.isNone)) := by
  have ht := f_compare_truth
  obtain⟨k,w,hw,hk⟩ : ∃(k : Int)(w : List V),verdV L r = .strct [.int .i64 k,.seq 5 w] /\ k = (if r.isNone = true then 1 else 2) := by
    cases r with
    |none => exact⟨1,[],rfl,rfl⟩
    |some ts => exact⟨2,_,rfl,rfl⟩
  obtain⟨k',w',hw',hk'⟩ : ∃(k : Int)(w : List V),verdV L' s = .strct [.int .i64 k,.seq 5 w] /\ k = (if s.isNone = true then 1 else 2) := by
    cases s with
    |none => exact⟨1,[],rfl,rfl⟩
    |some ts => exact⟨2,_,rfl,rfl⟩
  rw[hw]at h1;rw[hw']at h2;have t1 : Fn Tryz.prog n_compare_truth [.bool true] (.int .i64 1) := ht true;have t0 : Fn Tryz.prog n_compare_truth [.bool false] (.int .i64 0) := ht false;generalize r.isNone = x at *;generalize s.isNone = y at *;clear hw hw' ht;cases x <;> cases y <;> simp at hk hk' <;> subst hk <;> subst hk'
  all_goals
    refine yoA i_compare_Diff ?_;simp(disch := omega) [-List.reduceReplicate];refine az h1 (by simp) ?_
    simp(disch := omega) [-List.reduceReplicate]
    first|refine aw t1 rfl ?_ |refine aw t0 rfl ?_
    simp(disch := omega) [-List.reduceReplicate];refine az h2 (by simp) ?_
    simp(disch := omega) [-List.reduceReplicate]
    first|refine aw t1 rfl ?_ |refine aw t0 rfl ?_
    simp(disch := omega) [-List.reduceReplicate,standI]
theorem good_self (p : Policy) : ∀ b ∈ aY (ai p) (ai p), b.one = b.two := labelsP_self _ (tr p)
end Go.Abs.F
end
section
set_option maxHeartbeats 4000000
set_option maxRecDepth 100000
namespace Go.Abs.F
open Go.Proofs Go.Aut
attribute [-simp] getElem?_pos Option.not_isSome List.map_map
theorem ddGo_sorted2 : ∀(l : List Str)(p : Str),(p :: l).Pairwise (λx y => x <= y) -> (p :: r6 p l).Pairwise (λx y => x<y)
  |[],p,_ => by simp[r6]
  |y :: l,p,h => by
    simp only[r6];have h1 := (List.pairwise_cons.1 h).1;have h2 := (List.pairwise_cons.1 h).2;by_cases he : y = p
    ·subst he
     simp only[if_true];exact ddGo_sorted2 l y h2
    ·simp only[if_neg he]
     have ih := ddGo_sorted2 l y h2
     have hlt : p<y := by
       rcases List.le_iff_lt_or_eq.1 (h1 y (by simp))with h|h
       ·exact h
       ·exact absurd h.symm he
     refine List.pairwise_cons.2 ⟨λs hs => ?_,ih⟩
     rcases List.mem_cons.1 hs with rfl|hs
     ·exact hlt
     ·exact List.lt_trans hlt ((List.pairwise_cons.1 ih).1 s hs)
theorem srt_sorted2(l : List Str) : (srt l).Pairwise λx y => x <= y := by
  have := List.pairwise_mergeSort (le := λx y : Str => decide (x <= y)) (λa b c h1 h2 => by
    simp only[decide_eq_true_eq]at *;exact List.le_trans h1 h2) (λa b => by
    simp only[Bool.or_eq_true,decide_eq_true_eq];exact List.le_total a b) l
  exact this.imp λh => of_decide_eq_true h
theorem sd_mem2{l : List Str}{s : Str} : s ∈ sd l ↔ s ∈ l := by rw[sd,ZS,BX]
theorem sd_sorted2(l : List Str) : (sd l).Pairwise λx y => x<y := by
  unfold sd;have h := srt_sorted2 l;generalize srt l = r at h;cases r with
  |nil => simp[dd]
  |cons x r => exact ddGo_sorted2 r x h
theorem filter_two{α : Type}(f : α -> Bool) : ∀l : List α,(l.filter λx => !f x).length+(l.filter f).length = l.length
  |[] => rfl
  |x :: l => by
    have := filter_two f l;cases h : f x <;> simp[List.filter_cons,h]at this⊢ <;> omega
theorem sorted_ext : ∀{a b : List Str},a.Pairwise (λx y => x<y) -> b.Pairwise (λx y => x<y) -> (∀s,s ∈ a ↔ s ∈ b) -> a = b
  |[],[],_,_,_ => rfl
  |[],y :: b,_,_,h => by have := (h y).2 (by simp);cases this
  |x :: a,[],_,_,h => by have := (h x).1 (by simp);cases this
  |x :: a,y :: b,ha,hb,h => by
    have ha1 := (List.pairwise_cons.1 ha).1;have hb1 := (List.pairwise_cons.1 hb).1
    have hxy : x = y := by
      rcases List.mem_cons.1 ((h x).1 (by simp))with h1|h1
      ·exact h1
      ·rcases List.mem_cons.1 ((h y).2 (by simp))with h2|h2
       ·exact h2.symm
       ·exact absurd (List.lt_trans (hb1 x h1) (ha1 y h2)) (List.lt_irrefl _)
    subst hxy;congr 1;refine sorted_ext (List.pairwise_cons.1 ha).2 (List.pairwise_cons.1 hb).2 λs => ?_
    constructor
    ·intro hs
     rcases List.mem_cons.1 ((h s).1 (by simp[hs]))with h1|h1
     ·subst h1;exact absurd (ha1 s hs) (List.lt_irrefl _)
     ·exact h1
    ·intro hs
     rcases List.mem_cons.1 ((h s).2 (by simp[hs]))with h1|h1
     ·subst h1;exact absurd (hb1 s hs) (List.lt_irrefl _)
     ·exact h1
theorem cellG_swap{f g : Str -> Bool}{f1 f2 : Bool} : ∀{r : Option (List Nat)},uT f g f1 f2 r -> uT g f f2 f1 r
  |none,h => λs hs k1 k2 => h s hs k2 k1
  |some w,h => ⟨h.1,h.2.2.1,h.2.1,λs hs k1 k2 => h.2.2.2 s hs k2 k1⟩
theorem sd_same{l m : List Str}(h : ∀s,s ∈ l ↔ s ∈ m) : sd l = sd m :=
  sorted_ext (sd_sorted2 l) (sd_sorted2 m) λs => by rw[sd_mem2,sd_mem2,h s]
theorem counts_swap(p q : Policy)(el : Str) : aP q p el = aP p q el := by
  unfold aP;congr 1
  ·refine sd_same λs => ?_
   simp only[List.mem_filter,List.mem_map,List.mem_append];constructor <;> (rintro⟨⟨r,h,rfl⟩,k⟩;exact⟨⟨r,h.symm,rfl⟩,k⟩)
  ·refine sd_same λs => ?_
   simp only[List.mem_filter,List.mem_map,List.mem_append];constructor <;> (rintro⟨⟨r,h,rfl⟩,k⟩;exact⟨⟨r,h.symm,rfl⟩,k⟩)
theorem namesL_swap(p q : Policy) : iL q p = iL p q := by
  unfold iL;refine sd_same λs => ?_
  rw[List.mem_append,List.mem_append,or_comm]
theorem cellR_swap(f g : Str -> Bool)(f1 f2 : Bool) : Dr g f f2 f1 = Dr f g f1 f2 := by
  by_cases h : ∃r,uT f g f1 f2 r
  ·obtain⟨r,hr⟩ := h
   rw[mj hr,mj (cellG_swap hr)]
  ·unfold Dr
   rw[dif_neg h,dif_neg λ⟨r,hr⟩ => h ⟨r,cellG_swap hr⟩]
theorem lab_swapN{el ex : Str}{mn a b c d : Bool}{r : Option (List Nat)} : (lab el ex mn a b r).length = (lab el ex mn c d r).length := by
  cases r <;> rfl
theorem atR_swapN(p q : Policy)(el nm : Str) : (atR q p el nm).length = (atR p q el nm).length := by
  unfold atR;rw[counts_swap p q el];generalize aG (aP p q el) nm = x;rw[cellR_swap (bD p el x) (bD q el x) true true,cellR_swap (bD p el x) (bD q el x) false true,cellR_swap (bD p el x) (bD q el x) true false,cellR_swap (bD p el x) (bD q el x) false false];generalize Dr (bD p el x) (bD q el x) true true = r0;generalize Dr (bD p el x) (bD q el x) true false = r1;generalize Dr (bD p el x) (bD q el x) false true = r2;generalize Dr (bD p el x) (bD q el x) false false = r3;simp only[it,List.length_append];rw[lab_swapN (r := r2) (a := true) (b := false) (c := false) (d := true),lab_swapN (r := r1) (a := false) (b := true) (c := true) (d := false)];omega
theorem flatMap_length_eq{α β : Type}{f g : α -> List β}(h : ∀x,(f x).length = (g x).length) : ∀l : List α,(l.flatMap f).length = (l.flatMap g).length
  |[] => rfl
  |x :: l => by simp only[List.flatMap_cons,List.length_append,h x,flatMap_length_eq h l]
theorem labP_swapN(p q : Policy) : (aY q p).length = (aY p q).length := by
  unfold aY fO;rw[namesL_swap];simp only[List.length_append];congr 1;refine flatMap_length_eq (λel => ?_) _
  simp only[bC,List.length_cons];rw[counts_swap,flatMap_length_eq (λnm => atR_swapN p q el nm)]
theorem countsSelf_len(p : Policy)(el : Str) : (aP p p el).length <= (aC p el).length+(aC p el).length := by
  unfold aP sd;have h := filter_two bA ((aC p el ++ aC p el).map Rule.name);have h1 := Fr (srt (((aC p el ++ aC p el).map Rule.name).filter λs => !bA s))
  have h2 := Fr (srt (((aC p el ++ aC p el).map Rule.name).filter bA));rw[fL]at h1 h2;rw[List.length_map,List.length_append]at h;rw[List.length_append];omega
theorem atSelf_len(p : Policy)(hp : ∀el nm c,dp p el nm = some c -> ∃x,GoodC c x)(el nm : Str) : (atR p p el nm).length <= 2 := by
  obtain⟨r0,r1,r2,r3,c0,c1,c2,c3,_⟩ := xf p p el (aG (aP p p el) nm) (hp el _) (hp el _);unfold atR;rw[mj c0,mj c1,mj c2,mj c3,cellG_self (by decide) c1,cellG_self (by decide) c2]
  cases r0 <;> cases r3 <;> simp[it,lab]
theorem good13_els5(p : Policy) : (ai p).elements.length <= 5 := by
  have h := congrArg List.length (CC (p.elements.take (m4 0 [] (p.elements.take 5)).length) (m4 0 [] (p.elements.take 5)) 0);simp only[List.length_map]at h;have h2 := yr (p.elements.take 5) [] 0;unfold ai;simp only;rw[h];simp at h2;omega
theorem labSelf_len(p : Policy) : (aY (ai p) (ai p)).length <= 190 := by
  have hn := Jq (ai p) (ai p);have h5 := good13_els5 p
  have hf := rU (bC (ai p) (ai p) (atR (ai p) (ai p))) 13 (iL (ai p) (ai p)) λel _ => by
    have hc := countsSelf_len (ai p) el
    have hr : (aC (ai p) el).length <= 3 := by
      rcases jZ p el with h|⟨l,h⟩ <;> rw[h]
      ·simp
      ·exact vE l
    have hg := rU (atR (ai p) (ai p) el) 2 (aP (ai p) (ai p) el) λnm _ => atSelf_len _ (tr p) el nm
    simp only[bC,List.length_cons];omega
  simp only[aY,fO,List.length_append,List.length_cons,List.length_nil];omega
def comV(x : Bool)(w : List V) : V := .strct [.int .i64 (if x = true then 1 else 2),.seq 5 w]
theorem verd_com(L : List Label)(r : Option (List Tr)) : ∃w,verdV L r = comV r.isNone w := by
  cases r with
  |none => exact⟨[],rfl⟩
  |some ts => exact⟨_,rfl⟩
theorem f_stand (p q : Policy) (hl : (aY (ai p) (ai q)).length ≤ 189) : ∃ (x y : Bool) (w w' : List V),
    Fn Tryz.prog n_compare_Compare [(ai p).v, (ai q).v, .int .i64 (costN (ai p) (ai q) : Nat)] (comV x w) ∧
    Fn Tryz.prog n_compare_Compare [(ai q).v, (ai p).v, .int .i64 (costN (ai q) (ai p) : Nat)] (comV y w') ∧
    Fn Tryz.prog n_compare_Diff [(ai p).v, (ai q).v] (.int .i64 (standI x y)) ∧
    Fn Tryz.prog n_compare_Diff [(ai q).v, (ai p).v] (.int .i64 (standI y x)) ∧
    Fn Tryz.prog n_compare_Diff [(ai p).v, (ai p).v] (.int .i64 1) := by
  have hl' : (aY (ai q) (ai p)).length ≤ 189 := by rw [labP_swapN]; exact hl
  have one : ∀ (a b : Policy), (aY (ai a) (ai b)).length ≤ 189 → ∃ r, Fn Tryz.prog n_compare_Compare [(ai a).v, (ai b).v, .int .i64 (costN (ai a) (ai b) : Nat)] (verdV (aY (ai a) (ai b)) r) ∧ Fn Tryz.prog n_compare_verdict [(ai a).v, (ai b).v] (verdV (aY (ai a) (ai b)) r) := fun a b h => by
    obtain ⟨r, hC, h1⟩ := f_compare (good13_fewP a) (good13_fewP b) (ra a b) (by omega)
    obtain ⟨s, hD, h2⟩ := f_verdict (ra a b) (by omega) (good13_fewP a).rules (good13_fewP b).rules
    obtain ⟨f, hf⟩ := common_least hC
    have e := common_is hD hf
    subst e
    have h3 := h1 (costN (ai a) (ai b) : Nat)
    rw [compV, if_neg (by omega)] at h3
    exact ⟨_, h3, h2⟩
  obtain ⟨r, h1, h2⟩ := one p q hl
  obtain ⟨s, h3, h4⟩ := one q p hl'
  obtain ⟨t, hC, h5⟩ := f_verdict (ra p p) (labSelf_len p) (good13_fewP p).rules (good13_fewP p).rules
  have e := self_res (good_self p) hC
  subst e
  have d1 := f_diff h2 h4
  have d2 := f_diff h4 h2
  have d3 := f_diff h5 h5
  obtain ⟨w, e1⟩ := verd_com (aY (ai p) (ai q)) r
  obtain ⟨w', e2⟩ := verd_com (aY (ai q) (ai p)) s
  rw [e1] at h1
  rw [e2] at h3
  exact ⟨_, _, w, w', h1, h3, d1, d2, d3⟩
def i_law20_CompareDiffs:=ymI Tryz.func5 2 [[0,0,0,0,0,12,31,63,127,255],[0,1,2,3,4,5,6,7,8],[0,0,0,0,0,12,31,63,127,255],[0,1,2,3,4,5,6,7,8]]
theorem f_law20_CompareDiffs(hlv : livesF)(p q : Policy)(hR : ∀e ∈ p.elements,∀r ∈ e.rules,r.value.regex.length <= 1125899906842624)(hR' : ∀e ∈ q.elements,∀r ∈ e.rules,r.value.regex.length <= 1125899906842624) :
    FnE Tryz.prog n_law20_CompareDiffs [p.v,q.v] (.bool true) := by
  have hg := j3 p hR;have hg' := j3 q hR';have hfew := f_law20_few p q (CB p q);have hc := f_compare_Cost (good13_fewP p) (good13_fewP q);have hc' := f_compare_Cost (good13_fewP q) (good13_fewP p);have hst := f_stand p q;unfold livesF at hlv;generalize costN (ai p) (ai q) = c at *;generalize costN (ai q) (ai p) = c' at *;generalize aY (ai p) (ai q) = L at *;generalize ai p = a at *;generalize ai q = b at *;refine FnE.of_image mixed i_law20_CompareDiffs.1 i_law20_CompareDiffs.2 rfl λho => ?_
  clear ho;simp(disch := omega) [-List.reduceReplicate];refine ae hg (by simp) λ_ => ?_
  simp(disch := omega) [-List.reduceReplicate];refine ae hg' (by simp) λ_ => ?_
  simp(disch := omega) [-List.reduceReplicate];refine aa hfew rfl λ_ => ?_
  by_cases hl : L.length <= 189
  ·obtain⟨x,y,w,w',h1,h2,h3,h4,h5⟩ := hst hl
   unfold comV at h1 h2;simp(disch := omega) [-List.reduceReplicate,hl];refine aw hc rfl ?_;simp(disch := omega) [-List.reduceReplicate];refine az h1 (by simp) ?_
   simp(disch := omega) [-List.reduceReplicate];refine aw hc' rfl ?_;simp(disch := omega) [-List.reduceReplicate];refine az h2 (by simp) ?_
   simp(disch := omega) [-List.reduceReplicate];cases x <;> cases y <;> simp only[standI,if_true,if_false,Bool.false_eq_true]at h3 h4⊢
   all_goals
     simp(disch := omega) [-List.reduceReplicate];refine aa h3 rfl λ_ => ?_
     simp(disch := omega) [-List.reduceReplicate];refine aa h4 rfl λ_ => ?_
     simp(disch := omega) [-List.reduceReplicate];refine aa h5 rfl λ_ => ?_
     simp(disch := omega) [-List.reduceReplicate];refine aa hlv rfl λ_ => ?_
     simp(disch := omega) [-List.reduceReplicate]
  ·simp(disch := omega) [-List.reduceReplicate,hl]
   refine aa hlv rfl λ_ => ?_
   simp(disch := omega) [-List.reduceReplicate]
end Go.Abs.F
end
