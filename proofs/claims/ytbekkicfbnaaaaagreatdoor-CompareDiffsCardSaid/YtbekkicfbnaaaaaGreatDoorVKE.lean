/- CompareCosts. No condition. -/
import Derived.Test.YtbekkicfbnaaaaaGreatDoorVCodeL
import Derived.Test.YtbekkicfbnaaaaaGreatDoorVR17
import Derived.Test.YtbekkicfbnaaaaaGreatDoorVKD
import Derived.Test.YtbekkicfbnaaaaaGreatDoorVAbsR
set_option linter.all false
section
set_option maxHeartbeats 4000000
set_option maxRecDepth 100000
namespace Go.Abs.F
open Go.Proofs Go.Aut
attribute [-simp] getElem?_pos Option.not_isSome List.map_map
def sumA(f : Allowed -> Nat)(l : List Allowed) : Nat := (l.map f).sum
theorem sumA_take{f : Allowed -> Nat}{l : List Allowed}{k : Nat}{e : Allowed}(h : l[k]? = some e) : sumA f (l.take (k+1)) = sumA f (l.take k)+f e := by
  unfold sumA;rw[List.take_add_one,h];simp
theorem sumA_le{f : Allowed -> Nat}{B : Nat} : ∀l : List Allowed,(∀e ∈ l,f e <= B) -> sumA f l <= l.length*B
  |[],_ => by simp[sumA]
  |e :: l,h => by
    have h1 := sumA_le l λx hx => h x (by simp[hx])
    have h2 := h e (by simp)
    simp only[sumA,List.map_cons,List.sum_cons,List.length_cons,Nat.add_mul]at h1⊢;omega
theorem sumA_k{f : Allowed -> Nat}{B : Nat}{l : List Allowed}(h : ∀e ∈ l,f e <= B){k : Nat}(hk : k <= l.length) : sumA f (l.take k) <= k*B := by
  have := sumA_le (l.take k) λe he => h e (List.mem_of_mem_take he)
  rwa[List.length_take,Nat.min_eq_left hk]at this
def nRul(e : Allowed) : Nat := e.rules.length
def nKid(e : Allowed) : Nat := e.kids.length
theorem kid_ok{l : List Allowed}(h : oks (l.map Allowed.v)) : ∀e ∈ l,nKid e <= 140737488355328 := λe he => by
  have h1 := aaI.1 h e.v (List.mem_map.2 ⟨e,he,rfl⟩);simp[Allowed.v]at h1;exact h1.2.1.1
theorem f_compare_rules(p : Policy)(he : p.elements.length <= 1000)(hr : ∀e ∈ p.elements,nRul e <= 12) : Fn Tryz.prog n_compare_rules [p.v] (.int .i64 (sumA nRul p.elements : Nat)) := by
  refine yoA i_compare_rules ?_;simp(disch := omega) [-List.reduceReplicate];refine ah (λk : Nat => ⟨[(3,.int .i64 (sumA nRul (p.elements.take k) : Nat)),(7,.seq 3 (p.elements.map Allowed.v)),(8,.int .i64 p.elements.length),(9,.int .i64 k)],[]⟩) (λk => k <= p.elements.length) (λk => p.elements.length-k) [] _ 0 rfl (by simp[sumA]) (by simp) ?_
  intro k hk N hN;rcases Nat.lt_or_ge k p.elements.length with hlt|hge
  ·obtain⟨e,hb⟩ := av hlt
   have hB := sumA_k hr hk;have hre := hr e (List.mem_of_getElem? hb);have ht := sumA_take (f := nRul) hb;unfold nRul at hre;have hn : nRul e = e.rules.length := rfl;rw[hn]at ht;generalize sumA nRul (p.elements.take k) = A at *;simp(disch := omega) [-List.reduceReplicate,hb];exact hN.out _ <| Nx.mk (k+1) (by simp[ht]) (by omega) (by omega)
  ·have hkk : k = p.elements.length := by omega
   subst hkk;simp(disch := omega) [-List.reduceReplicate,List.take_length]
theorem f_compare_places(p : Policy)(he : p.elements.length <= 1000) : Fn Tryz.prog n_compare_places [p.v] (.int .i64 (p.top.length+sumA nKid p.elements : Nat)) := by
  refine yoB i_compare_places λho => ?_
  simp only[oks,ok,and_true]at ho;have hlt : p.top.length <= 140737488355328 := by have := ho;simp at this;exact this.1.1
  have hr : ∀e ∈ p.elements,nKid e <= 140737488355328 := by have := ho;simp at this;exact kid_ok this.2.1.2
  clear ho;simp(disch := omega) [-List.reduceReplicate];refine ah (λk : Nat => ⟨[(3,.int .i64 (p.top.length+sumA nKid (p.elements.take k) : Nat)),(10,.seq 3 (p.elements.map Allowed.v)),(11,.int .i64 p.elements.length),(12,.int .i64 k)],[]⟩) (λk => k <= p.elements.length) (λk => p.elements.length-k) [] _ 0 rfl (by simp[sumA]) (by simp) ?_
  intro k hk N hN;rcases Nat.lt_or_ge k p.elements.length with hlt|hge
  ·obtain⟨e,hb⟩ := av hlt
   have hB := sumA_k hr hk;have hre := hr e (List.mem_of_getElem? hb);have ht := sumA_take (f := nKid) hb;unfold nKid at hre;have hn : nKid e = e.kids.length := rfl;rw[hn]at ht;generalize sumA nKid (p.elements.take k) = A at *;simp(disch := omega) [-List.reduceReplicate,hb];exact hN.out _ <| Nx.mk (k+1) (by simp[ht];omega) (by omega) (by omega)
  ·have hkk : k = p.elements.length := by omega
   subst hkk;simp(disch := omega) [-List.reduceReplicate,List.take_length]
theorem f_ref20_size(p : Policy)(he : p.elements.length <= 1000)(hr : ∀e ∈ p.elements,nRul e <= 12) : Fn Tryz.prog n_ref20_size [p.v] (.tup [.int .i64 (sumA nRul p.elements : Nat),.int .i64 (p.top.length+sumA nKid p.elements : Nat)]) := by
  refine yoB i_ref20_size λho => ?_
  simp only[oks,ok,and_true]at ho;have hlt : p.top.length <= 140737488355328 := by have := ho;simp at this;exact this.1.1
  have hs : ∀e ∈ p.elements,nKid e <= 140737488355328 := by have := ho;simp at this;exact kid_ok this.2.1.2
  clear ho;simp(disch := omega) [-List.reduceReplicate];refine ah (λk : Nat => ⟨[(1,.ptr 0 0),(4,.int .i64 (sumA nRul (p.elements.take k) : Nat)),(5,.int .i64 (p.top.length+sumA nKid (p.elements.take k) : Nat)),(6,.int .i64 k)],[some (.box [.seq 1 (p.top.map .str),.seq 3 (p.elements.map Allowed.v),.seq 1 (p.unwrap.map .str)])]⟩) (λk => k <= p.elements.length) (λk => p.elements.length-k) [] _ 0 rfl (by simp[sumA]) (by simp) ?_
  intro k hk N hN;rcases Nat.lt_or_ge k p.elements.length with hlt|hge
  ·obtain⟨e,hb⟩ := av hlt
   have hB := sumA_k hr hk;have hC := sumA_k hs hk;have hre := hr e (List.mem_of_getElem? hb);have hse := hs e (List.mem_of_getElem? hb);have ht := sumA_take (f := nRul) hb;have hu := sumA_take (f := nKid) hb;unfold nRul at hre;unfold nKid at hse;have hn : nRul e = e.rules.length := rfl;have hm : nKid e = e.kids.length := rfl;rw[hn]at ht;rw[hm]at hu;generalize sumA nRul (p.elements.take k) = A at *;generalize sumA nKid (p.elements.take k) = C at *;simp(disch := omega) [-List.reduceReplicate,hb];exact hN.out _ <| Nx.mk (k+1) (by simp[ht,hu];omega) (by omega) (by omega)
  ·have hkk : k = p.elements.length := by omega
   subst hkk;simp(disch := omega) [-List.reduceReplicate,List.take_length]
def costN(p q : Policy) : Nat := (2+(p.elements.length+q.elements.length)+4*(sumA nRul p.elements+sumA nRul q.elements))*(4+sumA nRul p.elements)*(4+sumA nRul q.elements)+(p.top.length+sumA nKid p.elements)+(q.top.length+sumA nKid q.elements)
theorem mul3{x a b X A B : Nat}(h1 : x <= X)(h2 : a <= A)(h3 : b <= B) : x*a <= X*A /\ x*a*b <= X*A*B := ⟨Nat.mul_le_mul h1 h2,Nat.mul_le_mul (Nat.mul_le_mul h1 h2) h3⟩
structure FewP (p : Policy) : Prop where
  els : p.elements.length <= 1000
  rules : ∀e ∈ p.elements,nRul e <= 12
section
variable{p q : Policy}(hp : FewP p)(hq : FewP q)
include hp hq
theorem f_compare_Cost : Fn Tryz.prog n_compare_Cost [p.v,q.v] (.int .i64 (costN p q : Nat)) := by
  have r1 := f_compare_rules p hp.els hp.rules;have r2 := f_compare_rules q hq.els hq.rules;have l1 := f_compare_places p hp.els;have l2 := f_compare_places q hq.els;have b1 := sumA_le _ hp.rules;have b2 := sumA_le _ hq.rules;have e1 := hp.els;have e2 := hq.els;refine yoB i_compare_Cost λho => ?_
  simp only[oks,ok,and_true]at ho
  have t1 : p.top.length+sumA nKid p.elements <= 1000000000000000000 := by
    have := ho;simp at this;have h1 := sumA_le (f := nKid) (B := 140737488355328) p.elements (kid_ok this.1.2.1.2);have h2 := this.1.1.1;omega
  have t2 : q.top.length+sumA nKid q.elements <= 1000000000000000000 := by
    have := ho;simp at this;have h1 := sumA_le (f := nKid) (B := 140737488355328) q.elements (kid_ok this.2.2.1.2);have h2 := this.2.1.1;omega
  clear ho;unfold costN;generalize sumA nRul p.elements = a at *;generalize sumA nRul q.elements = b at *;generalize p.top.length+sumA nKid p.elements = m at *;generalize q.top.length+sumA nKid q.elements = n at *;obtain⟨z,hz⟩ : ∃z,z = 2+(p.elements.length+q.elements.length)+4*(a+b) := ⟨_,rfl⟩;obtain⟨g1,g2⟩ := mul3 (show z <= 100000 by omega) (show 4+a <= 12004 by omega) (show 4+b <= 12004 by omega)
  have hzi : (2+((p.elements.length : Int)+q.elements.length)+4*((a : Int)+b)) = (z : Int) := by omega
  have m1 : ((z : Int)*(4+(a : Int))) = ((z*(4+a) : Nat) : Int) := by simp
  have m2 : (((z*(4+a) : Nat) : Int)*(4+(b : Int))) = ((z*(4+a)*(4+b) : Nat) : Int) := by simp
  rw[<- hz];generalize z*(4+a) = w at *;generalize w*(4+b) = u at *;simp(disch := omega) [-List.reduceReplicate];refine aw r1 rfl ?_;simp(disch := omega) [-List.reduceReplicate];refine aw r2 rfl ?_;simp(disch := omega) [-List.reduceReplicate];have hzi' : (2 : Int)+((p.elements.length : Int)+q.elements.length)+4*((a : Int)+b) = (z : Int) := hzi;simp(disch := omega) [-List.reduceReplicate,hzi,m1,m2];refine aw l1 rfl ?_;simp(disch := omega) [-List.reduceReplicate,hzi,m1,m2];refine aw l2 rfl ?_;simp(disch := omega) [-List.reduceReplicate,hzi,m1,m2]
theorem f_ref20_Cost : Fn Tryz.prog n_ref20_Cost [p.v,q.v] (.int .i64 (costN p q : Nat)) := by
  have r1 := f_ref20_size p hp.els hp.rules;have r2 := f_ref20_size q hq.els hq.rules;have b1 := sumA_le _ hp.rules;have b2 := sumA_le _ hq.rules;have e1 := hp.els;have e2 := hq.els;refine yoB i_ref20_Cost λho => ?_
  simp only[oks,ok,and_true]at ho
  have t1 : p.top.length+sumA nKid p.elements <= 1000000000000000000 := by
    have := ho;simp at this;have h1 := sumA_le (f := nKid) (B := 140737488355328) p.elements (kid_ok this.1.2.1.2);have h2 := this.1.1.1;omega
  have t2 : q.top.length+sumA nKid q.elements <= 1000000000000000000 := by
    have := ho;simp at this;have h1 := sumA_le (f := nKid) (B := 140737488355328) q.elements (kid_ok this.2.2.1.2);have h2 := this.2.1.1;omega
  clear ho;unfold costN;generalize sumA nRul p.elements = a at *;generalize sumA nRul q.elements = b at *;generalize p.top.length+sumA nKid p.elements = m at *;generalize q.top.length+sumA nKid q.elements = n at *;obtain⟨z,hz⟩ : ∃z,z = 2+(p.elements.length+q.elements.length)+4*(a+b) := ⟨_,rfl⟩;obtain⟨g1,g2⟩ := mul3 (show z <= 100000 by omega) (show 4+a <= 12004 by omega) (show 4+b <= 12004 by omega)
  have hzi : (2+(p.elements.length : Int)+q.elements.length+4*(a : Int)+4*(b : Int)) = (z : Int) := by omega
  have m1 : ((z : Int)*(4+(a : Int))) = ((z*(4+a) : Nat) : Int) := by simp
  have m2 : (((z*(4+a) : Nat) : Int)*(4+(b : Int))) = ((z*(4+a)*(4+b) : Nat) : Int) := by simp
  rw[<- hz];generalize z*(4+a) = w at *;generalize w*(4+b) = u at *;simp(disch := omega) [-List.reduceReplicate];refine aa r1 rfl λ_ => ?_
  simp(disch := omega) [-List.reduceReplicate];refine aa r2 rfl λ_ => ?_
  simp(disch := omega) [-List.reduceReplicate,hzi,m1,m2]
end
theorem f_compare_truth(b : Bool) : Fn Tryz.prog n_compare_truth [.bool b] (.int .i64 (if b = true then 1 else 0)) := by
  refine yoA i_compare_truth ?_;cases b <;> simp(disch := omega) [-List.reduceReplicate]
theorem good13_fewP(p : Policy) : FewP (ai p) := ⟨j1 p,j0 p⟩
end Go.Abs.F
end
section
set_option maxHeartbeats 4000000
set_option maxRecDepth 100000
namespace Go.Abs.F
open Go.Proofs Go.Aut
attribute [-simp] getElem?_pos Option.not_isSome List.map_map
theorem allTs_all{f : Tr -> Prop} : ∀{l : List Tr},dw f l ↔ ∀t ∈ l,ai2 f t
  |[] => by simp[dw]
  |t :: l => by
    have := allTs_all (f := f) (l := l);simp[dw,this]
theorem path_few{S : FSK} : ∀{f num : Nat}{k : Stp}{l : List Tr},f <= 1000000000 -> pathF S f num k = some l -> ∀t ∈ l,ai2 gO t := by
  intro f
  induction f using Nat.strongRecOn with
  |ind f ih =>
    intro num k l hf h t ht;cases f with
    |zero => simp[pathF]at h
    |succ f =>
      simp only[pathF]at h;split at h
      ·cases h;cases ht
      ·split at h
       ·cases h
       ·rename_i kids hk
        split at h
        ·cases h
        ·rename_i l' hl'
         cases h;rcases List.mem_cons.1 ht with rfl|ht
         ·simp only[ai2]
          refine⟨?_,allTs_all.2 λt ht => ih f (by omega) (by omega) hk t (List.mem_reverse.1 ht)⟩
          have := pathF_len hk;simp only[gO,Tr.kids,List.length_reverse];omega
         ·exact ih f (by omega) (by omega) hl' t ht
theorem least_few{m : Mch}{f : Nat}{ts : List Tr}(h : leastP m f = some (some ts)) : dw gO ts /\ ts.length <= 1000000000 := by
  unfold leastP at h;split at h
  ·cases h
  ·cases h
  ·rename_i e S hS
   split at h
   ·cases h
   ·cases hp : pathF S 1000000000 e.num e with
    |none => rw[hp]at h;cases h
    |some l =>
      rw[hp]at h;cases h;refine⟨allTs_all.2 λt ht => path_few (Nat.le_refl _) hp t (List.mem_reverse.1 ht),?_⟩
      have := pathF_len hp;simp only[List.length_reverse];omega
theorem run_up{m : Mch} : ∀{f : Nat}{S : FSK}{R : Option Stp×FSK},runP m f S = some R -> runP m (f+1) S = some R
  |0,S,R,h => by simp[runP]at h
  |f+1,S,R,h => by
    rw[runP]at h⊢;split at h
    ·rename_i h1;rw[if_pos h1];exact h
    ·rename_i h1
     rw[if_neg h1];split at h
     ·rename_i h2;rw[if_pos h2];exact run_up h
     ·rename_i h2
      rw[if_neg h2];split at h
      ·rename_i h3;rw[if_pos h3];exact h
      ·rename_i h3;rw[if_neg h3];exact run_up h
theorem run_le{m : Mch}{f : Nat}{S : FSK}{R : Option Stp×FSK}(h : runP m f S = some R) : ∀k,runP m (f+k) S = some R
  |0 => h
  |k+1 => run_up (run_le h k)
theorem least_le{m : Mch}{f k : Nat}{r : Option (List Tr)}(h : leastP m f = some r) : leastP m (f+k) = some r := by
  unfold leastP at h⊢;cases hR : runP m f (beginP (m.labels+1))with
  |none => rw[hR]at h;cases h
  |some R => rw[hR]at h;rw[run_le hR k];exact h
theorem least_one{m : Mch}{f g : Nat}{r s : Option (List Tr)}(h1 : leastP m f = some r)(h2 : leastP m g = some s) : r = s := by
  have a := least_le (k := g) h1;have b := least_le (k := f) h2;rw[Nat.add_comm]at b;rw[a]at b;cases b;rfl
theorem common_few{g h : HedgeP}{ts : List Tr}(H : CommonR g h (some ts)) : dw gO ts /\ ts.length <= 1000000000 := by
  rcases H with⟨_,h⟩|⟨_,_,_,f,hf⟩
  ·cases h
  ·exact least_few hf
theorem sideW_few{n own : Nat}{next : Nat -> Nat -> Nat}{tells : Nat -> Nat}(h1 : own <= 200)(h2 : n <= 199) : (fM n own next tells).out.length <= 200 /\ (fM n own next tells).next.length <= 200 /\ ∀r ∈(fM n own next tells).next,r.length <= 200 := by
  refine⟨by simpa[fM]using h1,by simpa[fM]using h1,λr hr => ?_⟩
  simp only[fM,List.mem_map,List.mem_range]at hr;obtain⟨s,hs,rfl⟩ := hr;simp;omega
theorem hedge_few(p : Policy){L : List Label}(al : Label -> Bool)(hl : L.length <= 190) : FewH (ba p L al) where
  states := by simp[ba];omega
  labels := by simp[ba];omega
  side n := by
    have hw : ∀par req,(au p L par req).len+4 <= 200 := λpar req => by
      have hn := dO (par := par) L [];simp only[au];simp at hn;omega
    have hroot := sideW_few (n := L.length) (next := (au p L [] []).next) (tells := λs => if(au p L [] []).ends s = true then 1 else 0) (hw [] []) (by omega)
    unfold sideAt;cases hh : (ba p L al).labels[n]? with
    |none => exact hroot
    |some s =>
      have hm := List.mem_of_getElem? hh;simp only[ba]at hm;obtain⟨i,hi,rfl⟩ := List.mem_mapIdx.1 hm;have hleaf : (jM L al i L[i]).out.length <= 200 /\ (jM L al i L[i]).next.length <= 200 /\ ∀r ∈(jM L al i L[i]).next,r.length <= 200 := sideW_few (by omega) (by omega)
      simp only[Option.getD_some];unfold eo;split
      ·split
       ·exact sideW_few (hw _ _) (by omega)
       ·exact hleaf
      ·exact hleaf
theorem notP_few{h : HedgeP}(H : FewH h) : FewH (notP h) where
  states := H.states
  labels := H.labels
  side n := by
    have := H.side n;unfold sideAt at this⊢;have e : (notP h).labels = h.labels := rfl;rw[e];cases hh : h.labels[n]? with
    |none => rw[hh]at this;simpa[notP]using this
    |some s => rw[hh]at this;exact this
def verdV(L : List Label) : Option (List Tr) -> V
  |none => .strct [.int .i64 1,.seq 5 []]
  |some ts => .strct [.int .i64 2,.seq 5 ((br L ts).map Node.v)]
def firstH(p : Policy)(L : List Label) : HedgeP := ba p L Label.one
def otherH(q : Policy)(L : List Label) : HedgeP := notP (ba q L Label.two)
theorem f_verdict{p q : Policy}{L : List Label}(hL : Fn Tryz.prog we [p.v,q.v] (.seq 7 (L.map Label.v)))(hl : L.length <= 190)(hp : ∀e ∈ p.elements,e.rules.length <= 12)(hq : ∀e ∈ q.elements,e.rules.length <= 12) :
    ∃res,CommonR (firstH p L) (otherH q L) res /\ Fn Tryz.prog n_compare_verdict [p.v,q.v] (verdV L res) := by
  have hF := mL p L hl hp;have hS := rZ q L hl hq;have hfw := hedge_few q (L := L) Label.two hl;have hN := f_hedge_Not (ba q L Label.two) (λn => by have := hfw.side n;exact⟨by omega,by omega,λr hr => by have := this.2.2 r hr;omega⟩) (by have := hfw.labels;omega)
  obtain⟨res,hC,hf⟩ := f_hedge_Common (firstH p L) (otherH q L) (hedge_few p Label.one hl) (notP_few hfw);refine⟨res,hC,?_⟩
  have hnod : ∀ts,res = some ts -> Fn Tryz.prog fy [.seq 7 (L.map Label.v),.seq 2 (ts.map Tr.v)] (.seq 5 ((br L ts).map Node.v)) := λts e => by
    subst e;obtain⟨g1,g2⟩ := common_few hC;exact uy L (by omega) ts g1 g2
  clear hC;unfold firstH otherH at hf;generalize notP (ba q L Label.two) = H3 at *;generalize ba p L Label.one = H1 at *;generalize ba q L Label.two = H2 at *;unfold HedgeP.v at hF hS hN hf;refine yoA i_compare_verdict ?_;simp(disch := omega) [-List.reduceReplicate];refine ae hL (by simp) λ_ => ?_
  simp(disch := omega) [-List.reduceReplicate];refine az hF (by simp) ?_
  simp(disch := omega) [-List.reduceReplicate];refine az hS (by simp) ?_
  simp(disch := omega) [-List.reduceReplicate];refine az hN (by simp) ?_
  simp(disch := omega) [-List.reduceReplicate];refine az hf (by simp) ?_
  cases res with
  |none =>
    simp(disch := omega) [-List.reduceReplicate,trsV2];rfl
  |some ts =>
    simp(disch := omega) [-List.reduceReplicate,trsV2];refine ae (hnod ts rfl) (by simp) λ_ => ?_
    simp(disch := omega) [-List.reduceReplicate];rfl
def compV(c : Nat)(budget : Int)(L : List Label)(res : Option (List Tr)) : V := if budget<c then .strct [.int .i64 3,.seq 5 []]else verdV L res
theorem f_compare{p q : Policy}(hp : FewP p)(hq : FewP q){L : List Label}(hL : Fn Tryz.prog we [p.v,q.v] (.seq 7 (L.map Label.v)))(hl : L.length <= 190) :
    ∃res,CommonR (firstH p L) (otherH q L) res /\ ∀budget : Int,Fn Tryz.prog n_compare_Compare [p.v,q.v,.int .i64 budget] (compV (costN p q) budget L res) := by
  obtain⟨res,hC,hv⟩ := f_verdict hL hl hp.rules hq.rules;refine⟨res,hC,λbudget => ?_⟩
  have hc := f_compare_Cost hp hq;generalize costN p q = c at *
  obtain⟨k,w,hw⟩ : ∃(k : Int)(w : List V),verdV L res = .strct [.int .i64 k,.seq 5 w] := by
    cases res with
    |none => exact⟨1,[],rfl⟩
    |some ts => exact⟨2,_,rfl⟩
  unfold compV;rw[hw]at hv⊢;refine yoA i_compare_Compare ?_;simp(disch := omega) [-List.reduceReplicate];refine aa hc rfl λ_ => ?_
  by_cases hb : budget<c
  ·simp(disch := omega) [-List.reduceReplicate,hb]
  ·simp(disch := omega) [-List.reduceReplicate,hb]
   refine ae hv (by simp) λ_ => ?_
   simp(disch := omega) [-List.reduceReplicate]
end Go.Abs.F
end
section
set_option maxHeartbeats 4000000
set_option maxRecDepth 100000
namespace Go.Abs.F
open Go.Proofs Go.Aut
attribute [-simp] getElem?_pos Option.not_isSome List.map_map
theorem wi_lt(w : Wi)(hr : ∀r,w.row r <= w.len)(s r : Nat) : w.next s r<w.len+4 := by
  have := hr r;unfold Wi.next
  repeat' split
  all_goals omega
theorem sideW_right{n own tell : Nat}{next : Nat -> Nat -> Nat}{tells : Nat -> Nat}(h1 : 1 <= own)(hx : ∀s r,s<own -> r <= n -> next s r<own)(ht : ∀s,s<own -> tells s<tell) : RightP (fM n own next tells) (n+1) tell := by
  refine⟨by simp[fM];omega,by simp[fM],λo ho => ?_,λr hr => ?_⟩
  ·simp only[fM,List.mem_map,List.mem_range]at ho
   obtain⟨s,hs,rfl⟩ := ho;exact ht s hs
  ·simp only[fM,List.mem_map,List.mem_range]at hr
   obtain⟨s,hs,rfl⟩ := hr;refine⟨by simp,λv hv => ?_⟩
   simp only[List.mem_map,List.mem_range]at hv;obtain⟨r,hr,rfl⟩ := hv;simp only[fM,List.length_map,List.length_range];exact hx s r hs (by omega)
theorem hedge_soundP(p : Policy)(L : List Label)(al : Label -> Bool) : SoundP (ba p L al) where
  pos := by simp[ba]
  root := sideW_right (by omega) (λs r _ _ => wi_lt _ (En _ _ _ _) s r) λs _ => by split <;> omega
  labels s hs := by
    simp only[ba]at hs⊢;obtain⟨i,hi,rfl⟩ := List.mem_mapIdx.1 hs;have hleaf : RightP (jM L al i L[i]) (L.length+1) (L.length+1) := sideW_right (by omega) (λs r _ _ => by omega) λs _ => by split <;> omega
    unfold eo;split
    ·split
     ·exact sideW_right (by omega) (λs r _ _ => wi_lt _ (En _ _ _ _) s r) λs _ => by split <;> omega
     ·exact hleaf
    ·exact hleaf
theorem notP_sound{h : HedgeP}(H : SoundP h) : SoundP (notP h) where
  pos := H.pos
  root := by
    have R := H.root;refine⟨by simpa[notP]using R.pos,by simpa[notP]using R.len,λo ho => ?_,λr hr => by simpa[notP]using R.row r hr⟩
    simp only[notP,List.mem_map]at ho;obtain⟨x,hx,rfl⟩ := ho;have := R.out x hx;unfold flipO;split
    ·omega
    ·split <;> omega
  labels := H.labels
theorem common_least{p q : Policy}{L : List Label}{res : Option (List Tr)}(H : CommonR (firstH p L) (otherH q L) res) : ∃f,leastP (togM (firstH p L) (otherH q L)) f = some res := by
  have hl : (firstH p L).labels.length = (otherH q L).labels.length := by simp[firstH,otherH,notP,ba]
  rcases H with⟨h,_⟩|⟨_,_,_,h⟩
  ·exact absurd ⟨hl,hedge_soundP _ _ _,notP_sound (hedge_soundP _ _ _)⟩ h
  ·exact h
theorem common_is{p q : Policy}{L : List Label}{res r : Option (List Tr)}{f : Nat}(H : CommonR (firstH p L) (otherH q L) res)(h : leastP (togM (firstH p L) (otherH q L)) f = some r) : res = r := by
  obtain⟨g,hg⟩ := common_least H;exact least_one hg h
def polE : Policy := ⟨[],[],[]⟩
def polU : Policy := ⟨[ja],[],[]⟩
def labT : List Label := [cc 1 [],cc 2 []]
theorem rulesAt_E(el : Str) : aC polE el = [] := by simp[aC,polE,aJ,Allowed.zero]
theorem rulesAt_U(el : Str) : aC polU el = [] := by simp[aC,polU,aJ,Allowed.zero]
theorem least_UE : leastP (togM (firstH polU labT) (otherH polE labT)) 60 = some (some [⟨0,[]⟩]) := by kernel_rfl
theorem least_UU : leastP (togM (firstH polU labT) (otherH polU labT)) 60 = some none := by kernel_rfl
theorem labP_UE : fO polU polE (atR polU polE) = labT := by kernel_rfl
theorem labP_UU : fO polU polU (atR polU polU) = labT := by kernel_rfl
theorem f_Labels_UE : Fn Tryz.prog we [polU.v,polE.v] (.seq 7 (labT.map Label.v)) := by
  have h := xg polU polE (by decide) (by decide) (λel => by rw[rulesAt_U];simp) (λel => by rw[rulesAt_E];simp) (atR polU polE) (Ur polU polE) (af2 polU polE (λel nm c h => by simp[dp,rulesAt_U,dK]at h) (λel nm c h => by simp[dp,rulesAt_E,dK]at h))
  have e1 : fO polU polE (atR polU polE) = labT := labP_UE;rwa[e1]at h
theorem f_Labels_UU : Fn Tryz.prog we [polU.v,polU.v] (.seq 7 (labT.map Label.v)) := by
  have h := xg polU polU (by decide) (by decide) (λel => by rw[rulesAt_U];simp) (λel => by rw[rulesAt_U];simp) (atR polU polU) (Ur polU polU) (af2 polU polU (λel nm c h => by simp[dp,rulesAt_U,dK]at h) (λel nm c h => by simp[dp,rulesAt_U,dK]at h))
  have e1 : fO polU polU (atR polU polU) = labT := labP_UU;rwa[e1]at h
theorem fewP_U : FewP polU := ⟨by decide,λe he => by simp[polU]at he⟩
theorem fewP_E : FewP polE := ⟨by decide,λe he => by simp[polE]at he⟩
theorem f_comp_UE : Fn Tryz.prog n_compare_Compare [polU.v,polE.v,.int .i64 1000] (verdV labT (some [⟨0,[]⟩])) := by
  obtain⟨res,hC,h⟩ := f_compare fewP_U fewP_E f_Labels_UE (by decide)
  have e := common_is hC least_UE;subst e;have := h 1000;rwa[compV,if_neg (by decide)]at this
theorem f_comp_UU : Fn Tryz.prog n_compare_Compare [polU.v,polU.v,.int .i64 1000] (verdV labT none) := by
  obtain⟨res,hC,h⟩ := f_compare fewP_U fewP_U f_Labels_UU (by decide)
  have e := common_is hC least_UU;subst e;have := h 1000;rwa[compV,if_neg (by decide)]at this
theorem f_verdict_UU : Fn Tryz.prog n_compare_verdict [polU.v,polU.v] (verdV labT none) := by
  obtain⟨res,hC,h⟩ := f_verdict f_Labels_UU (by decide) fewP_U.rules fewP_U.rules
  have e := common_is hC least_UU;subst e;exact h
theorem f_diff_UU : Fn Tryz.prog n_compare_Diff [polU.v,polU.v] (.int .i64 1) := by
  have hv := f_verdict_UU;have ht : Fn Tryz.prog n_compare_truth [.bool true] (.int .i64 1) := f_compare_truth true;have e : verdV labT none = .strct [.int .i64 1,.seq 5 []] := rfl;rw[e]at hv;have hpv : polU.v = .strct [.seq 1 [.str ja],.seq 3 [],.seq 1 []] := rfl;rw[hpv]at hv⊢;refine yoA i_compare_Diff ?_;simp(disch := omega) [-List.reduceReplicate];refine az hv (by simp) ?_
  simp(disch := omega) [-List.reduceReplicate];refine aw ht rfl ?_;simp(disch := omega) [-List.reduceReplicate];refine az hv (by simp) ?_
  simp(disch := omega) [-List.reduceReplicate];refine aw ht rfl ?_;simp(disch := omega) [-List.reduceReplicate]
end Go.Abs.F
end
section
set_option maxHeartbeats 4000000
set_option maxRecDepth 100000
namespace Go.Abs.F
open Go.Proofs Go.Aut
attribute [-simp] getElem?_pos Option.not_isSome List.map_map
theorem f_law20_few(p q : Policy)(hl : (aY (ai p) (ai q)).length <= 1000000000) : Fn Tryz.prog n_law20_few [(ai p).v,(ai q).v] (.bool (decide ((aY (ai p) (ai q)).length <= 189))) := by
  have hL := ra p q;generalize aY (ai p) (ai q) = L at *;generalize ai p = a at *;generalize ai q = b at *;refine yoA i_law20_few ?_;simp(disch := omega) [-List.reduceReplicate];refine ae hL (by simp) λ_ => ?_
  simp(disch := omega) [-List.reduceReplicate]
def livesF : Prop := Fn Tryz.prog n_law20_lives [] (.bool true)
theorem f_law20_CompareCosts(hlv : livesF)(p q : Policy)(budget : Int)(hR : ∀e ∈ p.elements,∀r ∈ e.rules,r.value.regex.length <= 1125899906842624)(hR' : ∀e ∈ q.elements,∀r ∈ e.rules,r.value.regex.length <= 1125899906842624) :
    FnE Tryz.prog n_law20_CompareCosts [p.v,q.v,.int .i64 budget] (.bool true) := by
  have hg := j3 p hR;have hg' := j3 q hR';have hfew := f_law20_few p q (CB p q);have hc := f_compare_Cost (good13_fewP p) (good13_fewP q);have hd := f_ref20_Cost (good13_fewP p) (good13_fewP q);have hL := ra p q;have hcmp := λhl => f_compare (good13_fewP p) (good13_fewP q) hL hl
  unfold livesF at hlv;generalize costN (ai p) (ai q) = c at *;clear hL;generalize aY (ai p) (ai q) = L at *;generalize ai p = a at *;generalize ai q = b at *;refine FnE.of_image mixed i_law20_CompareCosts.1 i_law20_CompareCosts.2 rfl λho => ?_
  clear ho;simp(disch := omega) [-List.reduceReplicate];refine ae hg (by simp) λ_ => ?_
  simp(disch := omega) [-List.reduceReplicate];refine ae hg' (by simp) λ_ => ?_
  simp(disch := omega) [-List.reduceReplicate];refine aa hc rfl λhok => ?_
  have hcp : (c : Int) <= 9223372036854775807 := by
    simp[ok]at hok;omega
  simp(disch := omega) [-List.reduceReplicate];refine aa hfew rfl λ_ => ?_
  simp(disch := omega) [-List.reduceReplicate];refine aa hd rfl λ_ => ?_
  by_cases hl : L.length <= 189
  ·simp(disch := omega) [-List.reduceReplicate,hl]
   obtain⟨res,hC,hcm⟩ := hcmp (by omega)
   have h1 := hcm budget;have h2 := hcm (c-1);have e2 : compV c ((c : Int)-1) L res = .strct [.int .i64 3,.seq 5 []] := by rw[compV,if_pos (by omega)]
   rw[e2]at h2
   obtain⟨k,w,hw,hk⟩ : ∃(k : Int)(w : List V),compV c budget L res = .strct [.int .i64 k,.seq 5 w] /\ ((k = 3 /\ w = [] /\ budget<c) \/ (k≠3 /\ ¬ budget<c)) := by
     unfold compV;by_cases hb : budget<c
     ·rw[if_pos hb];exact⟨3,[],rfl,.inl ⟨rfl,rfl,hb⟩⟩
     ·rw[if_neg hb]
      cases res with
      |none => exact⟨1,[],rfl,.inr ⟨by decide,hb⟩⟩
      |some ts => exact⟨2,_,rfl,.inr ⟨by decide,hb⟩⟩
   rw[hw]at h1;refine ae h1 (by simp) λ_ => ?_
   rcases hk with⟨rfl,rfl,hb⟩|⟨hk,hb⟩
   ·simp(disch := omega) [-List.reduceReplicate,hb]
    refine ae h2 (by simp) λ_ => ?_
    simp(disch := omega) [-List.reduceReplicate];refine aa hlv rfl λ_ => ?_
    simp(disch := omega) [-List.reduceReplicate]
   ·simp(disch := omega) [-List.reduceReplicate,hb,hk]
    refine ae h2 (by simp) λ_ => ?_
    simp(disch := omega) [-List.reduceReplicate];refine aa hlv rfl λ_ => ?_
    simp(disch := omega) [-List.reduceReplicate]
  ·simp(disch := omega) [-List.reduceReplicate,hl]
   refine aa hd rfl λ_ => ?_
   simp(disch := omega) [-List.reduceReplicate];refine aa hlv rfl λ_ => ?_
   simp(disch := omega) [-List.reduceReplicate]
end Go.Abs.F
end
section
set_option maxHeartbeats 4000000
set_option maxRecDepth 100000
namespace Go.Abs.F
open Go.Proofs Go.Aut
attribute [-simp] getElem?_pos Option.not_isSome List.map_map
def nodX : Node := ⟨2,[],[],[120],[]⟩
def tupX : V := .tup [.seq 5 [nodX.v],.int .i64 0]
theorem f_walk_no(G : List (V×Bool)) : FnH Tryz.prog n_dom_walk [2] [.seq 5 [],.int .i64 1,.ref 0 0] [some (.gh G)] (.bool true) [some (.gh G)] := by
  refine yoH i_dom_walk ?_;simp(disch := omega) [-List.reduceReplicate]
  refine ah (λ(k : Nat) => ⟨[(0,.seq 5 []),(1,.int .i64 1),(2,.ref 0 0),(14,.int .i64 0),(15,.int .i64 0)],[some (.gh G)]⟩)
    (λk => True) (λk => 0) [] _ 0 rfl (by simp) trivial ?_
  rintro k _ N hN;simp(disch := omega) [-List.reduceReplicate]
theorem f_walk_one : FnH Tryz.prog n_dom_walk [2] [.seq 5 [nodX.v],.int .i64 0,.ref 0 0] [some (.gh [(tupX,true)])] (.bool true) [some (.gh [])] := by
  have hw := f_walk_no [];refine yoH i_dom_walk ?_;simp(disch := omega) [-List.reduceReplicate]
  refine ah (λ(k : Nat) => ⟨[(0,.seq 5 [nodX.v]),(1,.int .i64 0),(2,.ref 0 0),(14,.int .i64 1),(15,.int .i64 k)],[some (.gh (if k = 0 then[(tupX,true)]else[]))]⟩)
    (λk => k <= 1) (λk => 1-k) [] _ 0 rfl (by simp) (by simp) ?_
  rintro k hk N hN;rcases(show k = 0 \/ k = 1 by omega)with rfl|rfl
  ·simp(disch := omega) [-List.reduceReplicate,tupX,nodX]
   refine am [2] 1 [0] (by simp) (by simp) (by simp) (by simp) hw (by simp) λ_ _ => ?_
   simp(disch := omega) [-List.reduceReplicate];exact hN.out _ <| Nx.mk 1 (by simp[nodX]) (by omega) (by omega)
  ·simp(disch := omega) [-List.reduceReplicate]
theorem f_each_one : FnH Tryz.prog n_dom_each_1 [0] [.ref 0 0,.ptr 1 0] [some (.gh [(tupX,true)]),some (.box [.seq 5 [nodX.v]])] (.tup []) [some (.gh [])] := by
  have hw := f_walk_one;refine yoH i_dom_each_1 ?_;simp(disch := omega) [-List.reduceReplicate];refine am [2] 1 [0] (by simp) (by simp) (by simp) (by simp) hw (by simp) λ_ _ => ?_
  simp(disch := omega) [-List.reduceReplicate]
theorem f_dom_eachX(l : List V) : FnH Tryz.prog n_dom_each [] [.seq 5 l] [] (.fn (.func n_dom_each_1) [] [.ptr 0 0]) [some (.box [.seq 5 l])] := by
  refine yoH i_dom_each ?_;simp(disch := omega) [-List.reduceReplicate]
theorem f_weight_one : Fn Tryz.prog n_dom_Weight [.seq 5 [nodX.v]] (.int .i64 1) := by
  refine FnE.fn ?_;refine FnE.of_rng mixed Tryz.func38 i_dom_Weight rfl (full := [(tupX,true)]) (st := λi => ⟨[(2,.int .i64 0),(3,.ptr 0 0)],[some (.box [.int .i64 i])]⟩) (stx := ⟨[],[]⟩) ?_ ?_ ?_ ?_ ?_ ?_
  ·intro i us b h
   cases i with
   |zero => simp[tupX]at h;obtain⟨rfl,rfl⟩ := h;rfl
   |succ i => simp at h
  ·intro i v h
   cases i with
   |zero => simp at h
   |succ i => simp at h
  ·intro ho
   clear ho;unfold c_dom_Weight;simp only[acSeq];simp(disch := omega) [-List.reduceReplicate,ent];refine am [] 0 [] (by simp) (by simp) (by simp) (by simp) (f_dom_eachX [nodX.v]) (by simp) λ_ _ => ?_
   simp(disch := omega) [-List.reduceReplicate,RStart];exact⟨n_dom_each_1,1,⟨rfl,rfl⟩,_,rfl,_,by simp,rfl,enters_of Tryz.func96 (by kernel_rfl) rfl,f_each_one⟩
  ·intro i us b h
   cases i with
   |succ i => simp at h
   |zero =>
     simp[tupX]at h;obtain⟨rfl,rfl⟩ := h;unfold c_dom_Weight;simp(disch := omega) [-List.reduceReplicate,zipR,nodX];exact⟨rfl,[],_,rfl,by simp⟩
  ·intro h
   unfold c_dom_Weight;simp only[acSeq];simp(disch := omega) [-List.reduceReplicate];exact⟨by simp(disch := omega) [-List.reduceReplicate],rfl⟩
  ·intro h
   simp at h
theorem f_cmp_weight : Fn Tryz.prog n_compare_Weight [.strct [.int .i64 2,.seq 5 [nodX.v]]] (.int .i64 1) := by
  have hw := f_weight_one;generalize nodX.v = x at *;refine yoA i_compare_Weight ?_;simp(disch := omega) [-List.reduceReplicate];refine aa hw rfl λ_ => ?_
  simp(disch := omega) [-List.reduceReplicate]
theorem f_law20_lives : livesF := by
  unfold livesF;have c1 := f_comp_UE;have c2 := f_comp_UU;have dd := f_diff_UU;have ww := f_cmp_weight;have e1 : verdV labT (some [⟨0,[]⟩]) = .strct [.int .i64 2,.seq 5 [nodX.v]] := by kernel_rfl
  have e2 : verdV labT none = .strct [.int .i64 1,.seq 5 []] := rfl;have e3 : polU.v = .strct [.seq 1 [.str ja],.seq 3 [],.seq 1 []] := rfl;have e4 : polE.v = .strct [.seq 1 [],.seq 3 [],.seq 1 []] := rfl;rw[e1,e3,e4]at c1;rw[e2,e3]at c2;rw[e3]at dd;generalize nodX.v = x at *;refine yoA i_law20_lives ?_;simp(disch := omega) [-List.reduceReplicate];refine ae (by simpa[ja]using c1) (by simp) λ_ => ?_
  simp(disch := omega) [-List.reduceReplicate];refine ae (by simpa[ja]using c2) (by simp) λ_ => ?_
  simp(disch := omega) [-List.reduceReplicate];refine aa (by simpa[ja]using dd) rfl λ_ => ?_
  simp(disch := omega) [-List.reduceReplicate];refine aa ww rfl λ_ => ?_
  simp(disch := omega) [-List.reduceReplicate]
end Go.Abs.F
end
