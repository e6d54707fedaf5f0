/- Trees that two automata accept. No condition. -/
import Derived.Test.YtbekkicfbnaaaaaGreatDoorVKC
import Derived.Test.YtbekkicfbnaaaaaGreatDoorVKB
import Derived.Shelf.Slices.Clone
set_option linter.all false
section
set_option maxHeartbeats 4000000
set_option maxRecDepth 100000
namespace Go.Abs.F
open Go.Proofs
attribute [-simp] getElem?_pos Option.not_isSome List.map_map
def nxV(l : List (List Nat)) : V := .seq 1 (l.map λr => .seq 1 (r.map nV))
def ouV(l : List Nat) : V := .seq 1 (l.map nV)
theorem SideP.v_eq(s : SideP) : s.v = .strct [nxV s.next,ouV s.out] := rfl
theorem HedgeP.v_eq(h : HedgeP) : h.v = .strct [.int .i64 h.states,.seq 2 (h.labels.map SideP.v),nxV h.root.next,ouV h.root.out] := rfl
def sideAt(h : HedgeP)(n : Nat) : SideP := (h.labels[n]?).getD h.root
theorem f_hedge_side(h : HedgeP)(n : Nat) : Fn Tryz.prog n_hedge_side [h.v,.int .i64 n] (sideAt h n).v := by
  unfold sideAt;by_cases hn : n<h.labels.length
  ·obtain⟨s,hs⟩ := av hn
   have h2 : (n : Int)<h.labels.length := by omega
   rw[hs,Option.getD_some,HedgeP.v_eq,SideP.v_eq];refine yoA i_hedge_side ?_;simp(disch := omega) [-List.reduceReplicate,nxV,ouV,h2,hs,SideP.v_eq]
  ·have h2 : ¬ (n : Int)<h.labels.length := by omega
   rw[List.getElem?_eq_none (by omega),Option.getD_none,HedgeP.v_eq,SideP.v_eq]
   refine yoA i_hedge_side ?_;simp(disch := omega) [-List.reduceReplicate,nxV,ouV,h2]
def togV(g h : HedgeP) : V := .strct [.int .i64 g.states,.seq 2 (g.labels.map SideP.v),nxV g.root.next,ouV g.root.out,.int .i64 h.states,.seq 2 (h.labels.map SideP.v),nxV h.root.next,ouV h.root.out]
theorem f_tog_labels(g h : HedgeP) : Fn Tryz.prog n_hedge_together_labels [togV g h] (.int .i64 g.labels.length) := by
  unfold togV;refine yoA i_hedge_together_labels ?_;simp(disch := omega) [-List.reduceReplicate]
def nextAt(s : SideP)(a b : Nat) : Nat := ((((s.next[a]?).getD [])[b]?)).getD 0
def outAt(s : SideP)(a : Nat) : Nat := (s.out[a]?).getD 0
def togM(g h : HedgeP) : Mch := ⟨togV g h,g.labels.length,
  λn s t => nextAt (sideAt g n) (s/(sideAt h n).out.length) (t/h.states)*(sideAt h n).out.length+nextAt (sideAt h n) (s%(sideAt h n).out.length) (t%h.states),
  λn s => if n = g.labels.length then outAt (sideAt g n) (s/(sideAt h n).out.length)*outAt (sideAt h n) (s%(sideAt h n).out.length)else outAt (sideAt g n) (s/(sideAt h n).out.length)*h.states+outAt (sideAt h n) (s%(sideAt h n).out.length)⟩
structure RightP (s : SideP) (read tell : Nat) : Prop where
  pos : 0<s.out.length
  len : s.next.length = s.out.length
  out : ∀o ∈ s.out,o<tell
  row : ∀r ∈ s.next,r.length = read /\ ∀x ∈ r,x<s.out.length
structure SoundP (h : HedgeP) : Prop where
  pos : 0<h.states
  root : RightP h.root h.states 2
  labels : ∀s ∈ h.labels,RightP s h.states h.states
theorem SoundP.side{h : HedgeP}(H : SoundP h)(n : Nat) : RightP (sideAt h n) h.states (if n<h.labels.length then h.states else 2) := by
  unfold sideAt;by_cases hn : n<h.labels.length
  ·obtain⟨s,hs⟩ := av hn
   rw[hs,if_pos hn];exact H.labels s (List.mem_of_getElem? hs)
  ·rw[List.getElem?_eq_none (by omega),if_neg hn]
   exact H.root
theorem RightP.next{s : SideP}{read tell : Nat}(H : RightP s read tell){a b : Nat}(ha : a<s.out.length)(hb : b<read) : ∃r x,s.next[a]? = some r /\ r[b]? = some x /\ x<s.out.length := by
  obtain⟨r,hr⟩ := av (l := s.next) (k := a) (by rw[H.len];exact ha)
  obtain⟨h1,h2⟩ := H.row r (List.mem_of_getElem? hr);obtain⟨x,hx⟩ := av (l := r) (k := b) (by omega)
  exact⟨r,x,hr,hx,h2 x (List.mem_of_getElem? hx)⟩
theorem RightP.tell{s : SideP}{read tell : Nat}(H : RightP s read tell){a : Nat}(ha : a<s.out.length) : ∃x,s.out[a]? = some x /\ x<tell := by
  obtain⟨x,hx⟩ := av ha;exact⟨x,hx,H.out x (List.mem_of_getElem? hx)⟩
theorem vquoN(a b : Nat)(hb : 0<b)(ha : a <= 4611686018427387904) : dx .quo .i64 a b = some (.int .i64 ((a/b : Nat) : Int)) := by
  have := Nat.div_le_self a b;simp only[dx,if_neg (show ¬ (b : Int) = 0 by omega)]
  rw[Int.tdiv_eq_ediv_of_nonneg (by omega),<- Int.natCast_ediv]
  generalize a/b = q at *;rw[sx _ (by omega) (by omega)]
theorem vremN(a b : Nat)(hb : 0<b) : dx .rem .i64 a b = some (.int .i64 ((a%b : Nat) : Int)) := by
  simp only[dx,if_neg (show ¬ (b : Int) = 0 by omega)]
  rw[Int.tmod_eq_emod_of_nonneg (by omega),<- Int.natCast_emod]
theorem div_lt_of{s a b : Nat}(h : s<a*b) : s/b<a := Nat.div_lt_of_lt_mul (by rw[Nat.mul_comm];exact h)
section
variable{g h : HedgeP}(Hg : SoundP g)(Hh : SoundP h)(hg : g.states <= 10000)(hh : h.states <= 10000)(hgs : ∀n,(sideAt g n).out.length <= 10000)(hhs : ∀n,(sideAt h n).out.length <= 10000)
include Hg Hh hg hh hgs hhs
theorem f_tog_next(n s t : Nat)(hs : s<(sideAt g n).out.length*(sideAt h n).out.length)(ht : t<g.states*h.states) :
    Fn Tryz.prog n_hedge_together_next [togV g h,.int .i64 n,.int .i64 s,.int .i64 t] (.int .i64 ((togM g h).next n s t : Nat)) := by
  have ha := f_hedge_side g n;have hb := f_hedge_side h n;have Ra := Hg.side n;have Rb := Hh.side n;have hga := hgs n;have hgb := hhs n;simp only[togM];unfold togV;rw[HedgeP.v_eq,SideP.v_eq]at ha hb;simp only[nxV,ouV]at ha hb;generalize sideAt g n = A at *;generalize sideAt h n = B at *;have hBp := Rb.pos;have hhp := Hh.pos;obtain⟨r1,x1,e1,e2,e3⟩ := Ra.next (a := s/B.out.length) (b := t/h.states) (div_lt_of hs) (div_lt_of ht);obtain⟨r2,x2,e4,e5,e6⟩ := Rb.next (a := s%B.out.length) (b := t%h.states) (Nat.mod_lt _ hBp) (Nat.mod_lt _ hhp);have n1 : nextAt A (s/B.out.length) (t/h.states) = x1 := by simp[nextAt,e1,e2]
  have n2 : nextAt B (s%B.out.length) (t%h.states) = x2 := by simp[nextAt,e4,e5]
  rw[n1,n2]
  have hx1 : x1*B.out.length <= 100000000 := by
    have : x1*B.out.length <= 10000*10000 := Nat.mul_le_mul (by omega) (by omega)
    omega
  have d1 : ((s : Int)/(B.out.length : Int)).toNat = s/B.out.length := by rw[<- Int.natCast_ediv];rfl
  have d2 : ((t : Int)/(h.states : Int)).toNat = t/h.states := by rw[<- Int.natCast_ediv];rfl
  refine Fn.of_image mixed Tryz.func261 i_hedge_together_next rfl λho => ?_
  unfold c_hedge_together_next;simp only[oks,ok,and_true]at ho;clear ho;simp(disch := omega) [-List.reduceReplicate,nxV,ouV];refine az ha (by simp) ?_
  simp(disch := omega) [-List.reduceReplicate,nxV,ouV];refine az hb (by simp) ?_
  simp(disch := omega) [-List.reduceReplicate,nxV,ouV];refine wboth_K ⟨[(2,.int .i64 s),(3,.int .i64 t),(4,.ptr 0 0),(9,.ptr 1 0),(10,.ptr 2 0)],[some (.box [.int .i64 g.states,.seq 2 (g.labels.map SideP.v),.seq 1 (g.root.next.map λr => .seq 1 (r.map nV)),.seq 1 (g.root.out.map nV),.int .i64 h.states,.seq 2 (h.labels.map SideP.v),.seq 1 (h.root.next.map λr => .seq 1 (r.map nV)),.seq 1 (h.root.out.map nV)]),some (.box [.seq 1 (A.next.map λr => .seq 1 (r.map nV)),.seq 1 (A.out.map nV)]),some (.box [.seq 1 (B.next.map λr => .seq 1 (r.map nV)),.seq 1 (B.out.map nV)])]⟩ (λF hF => ?_) ?_
  ·repeat' (first
     |with_reducible exact hF
     |refine QU.mk ?_ ?_
     |(simp(disch := omega) [-List.reduceReplicate]))
  have k1 : (0 : Int) <= x1*B.out.length := by
    have : ((x1*B.out.length : Nat) : Int) = x1*B.out.length := by simp
    omega
  have k2 : (x1 : Int)*B.out.length <= 100000000 := by
    have : ((x1*B.out.length : Nat) : Int) = x1*B.out.length := by simp
    omega
  have hsb : s<100000000 := by
    have : A.out.length*B.out.length <= 10000*10000 := Nat.mul_le_mul hga hgb;omega
  have htb : t<100000000 := by
    have : g.states*h.states <= 10000*10000 := Nat.mul_le_mul hg hh;omega
  have u1 := vquoN s B.out.length hBp (by omega)
  have u2 := vquoN t h.states hhp (by omega)
  have u3 := vremN s B.out.length hBp;have u4 := vremN t h.states hhp;generalize hqa1 : s/B.out.length = a1 at *;have da1 : (s : Int)/(B.out.length : Int) = (a1 : Int) := by rw[<- Int.natCast_ediv,hqa1]
  generalize hqa2 : s%B.out.length = a2 at *;have da2 : (s : Int)%(B.out.length : Int) = (a2 : Int) := by rw[<- Int.natCast_emod,hqa2]
  generalize hqa3 : t/h.states = a3 at *;have da3 : (t : Int)/(h.states : Int) = (a3 : Int) := by rw[<- Int.natCast_ediv,hqa3]
  generalize hqa4 : t%h.states = a4 at *;have da4 : (t : Int)%(h.states : Int) = (a4 : Int) := by rw[<- Int.natCast_emod,hqa4]
  simp(disch := omega) [-List.reduceReplicate,u1,u2,u3,u4,da1,da2,da3,da4,e1,e2,e4,e5,nV,k1,k2]
theorem f_tog_out(n s : Nat)(hn : n <= g.labels.length)(hlab : g.labels.length = h.labels.length)(hs : s<(sideAt g n).out.length*(sideAt h n).out.length) :
    Fn Tryz.prog n_hedge_together_out [togV g h,.int .i64 n,.int .i64 s] (.int .i64 ((togM g h).out n s : Nat)) := by
  have ha := f_hedge_side g n;have hb := f_hedge_side h n;have Ra := Hg.side n;have Rb := Hh.side n;have hga := hgs n;have hgb := hhs n;have hlb := f_tog_labels g h;simp only[togM];unfold togV at hlb⊢;rw[HedgeP.v_eq,SideP.v_eq]at ha hb;simp only[nxV,ouV]at ha hb hlb;generalize sideAt g n = A at *;generalize sideAt h n = B at *;have hBp := Rb.pos;obtain⟨x1,e1,e3⟩ := Ra.tell (a := s/B.out.length) (div_lt_of hs);obtain⟨x2,e4,e6⟩ := Rb.tell (a := s%B.out.length) (Nat.mod_lt _ hBp);have n1 : outAt A (s/B.out.length) = x1 := by simp[outAt,e1]
  have n2 : outAt B (s%B.out.length) = x2 := by simp[outAt,e4]
  rw[n1,n2];have hx1 : x1 <= 10000 := by split at e3 <;> omega
  have hx2 : x2 <= 10000 := by split at e6 <;> omega
  have c1 : ((x1*x2 : Nat) : Int) = x1*x2 := by simp
  have c2 : ((x1*h.states : Nat) : Int) = x1*h.states := by simp
  have b1 : x1*x2 <= 10000*10000 := Nat.mul_le_mul hx1 hx2;have b2 : x1*h.states <= 10000*10000 := Nat.mul_le_mul hx1 hh;have k1 : (0 : Int) <= x1*x2 := by omega
  have k2 : (x1 : Int)*x2 <= 100000000 := by omega
  have k3 : (0 : Int) <= x1*h.states := by omega
  have k4 : (x1 : Int)*h.states <= 100000000 := by omega
  refine Fn.of_image mixed Tryz.func262 i_hedge_together_out rfl λho => ?_
  unfold c_hedge_together_out;simp only[oks,ok,and_true]at ho;clear ho;simp(disch := omega) [-List.reduceReplicate,nxV,ouV];refine az ha (by simp) ?_
  simp(disch := omega) [-List.reduceReplicate,nxV,ouV];refine az hb (by simp) ?_
  simp(disch := omega) [-List.reduceReplicate,nxV,ouV];refine wboth_K ⟨[(1,.int .i64 n),(2,.int .i64 s),(3,.ptr 0 0),(7,.ptr 1 0),(8,.ptr 2 0)],[some (.box [.int .i64 g.states,.seq 2 (g.labels.map SideP.v),.seq 1 (g.root.next.map λr => .seq 1 (r.map nV)),.seq 1 (g.root.out.map nV),.int .i64 h.states,.seq 2 (h.labels.map SideP.v),.seq 1 (h.root.next.map λr => .seq 1 (r.map nV)),.seq 1 (h.root.out.map nV)]),some (.box [.seq 1 (A.next.map λr => .seq 1 (r.map nV)),.seq 1 (A.out.map nV)]),some (.box [.seq 1 (B.next.map λr => .seq 1 (r.map nV)),.seq 1 (B.out.map nV)])]⟩ (λF hF => ?_) ?_
  ·repeat' (first
     |with_reducible exact hF
     |refine QU.mk ?_ ?_
     |(simp(disch := omega) [-List.reduceReplicate]))
  have hsb : s<100000000 := by
    have : A.out.length*B.out.length <= 10000*10000 := Nat.mul_le_mul hga hgb;omega
  have u1 := vquoN s B.out.length hBp (by omega)
  have u3 := vremN s B.out.length hBp;generalize hqa1 : s/B.out.length = a1 at *;have da1 : (s : Int)/(B.out.length : Int) = (a1 : Int) := by rw[<- Int.natCast_ediv,hqa1]
  generalize hqa2 : s%B.out.length = a2 at *;have da2 : (s : Int)%(B.out.length : Int) = (a2 : Int) := by rw[<- Int.natCast_emod,hqa2]
  simp(disch := omega) [-List.reduceReplicate,u1,u3,da1,da2,e1,e4,nV];refine aa hlb rfl λ_ => ?_
  by_cases hl : n = g.labels.length
  ·have hl' : (n : Int) = g.labels.length := by omega
   simp(disch := omega) [-List.reduceReplicate,hl,k1,k2]
  ·have hl' : ¬ (n : Int) = g.labels.length := by omega
   simp(disch := omega) [-List.reduceReplicate,hl,hl',k3,k4]
end
end Go.Abs.F
end
section
set_option maxHeartbeats 4000000
set_option maxRecDepth 100000
namespace Go.Abs.F
open Go.Proofs
attribute [-simp] getElem?_pos Option.not_isSome List.map_map
def rightGo(own read tell : Nat) : List Nat -> List (List Nat) -> Bool
  |o :: os,r :: rs => decide (o<tell)&&decide (r.length = read)&&r.all (λx => decide (x<own))&&rightGo own read tell os rs
  |_,_ => true
def rightB(s : SideP)(read tell : Nat) : Bool := decide (0<s.out.length)&&decide (s.next.length = s.out.length)&&rightGo s.out.length read tell s.out s.next
def soundB(h : HedgeP) : Bool := decide (0<h.states)&&rightB h.root h.states 2&&h.labels.all λs => rightB s h.states h.states
theorem rightGo_iff(own read tell : Nat) : ∀(os : List Nat)(rs : List (List Nat)),rs.length = os.length -> (rightGo own read tell os rs = true ↔ (∀o ∈ os,o<tell) /\ ∀r ∈ rs,r.length = read /\ ∀x ∈ r,x<own)
  |[],[],_ => by simp[rightGo]
  |[],_ :: _,h => by simp at h
  |_ :: _,[],h => by simp at h
  |o :: os,r :: rs,h => by
    have ih := rightGo_iff own read tell os rs (by simpa using h)
    simp only[rightGo,Bool.and_eq_true,decide_eq_true_eq,List.all_eq_true,ih,List.mem_cons,forall_eq_or_imp];constructor
    ·rintro⟨⟨⟨h1,h2⟩,h3⟩,h4,h5⟩;exact⟨⟨h1,h4⟩,⟨h2,h3⟩,h5⟩
    ·rintro⟨⟨h1,h4⟩,⟨h2,h3⟩,h5⟩;exact⟨⟨⟨h1,h2⟩,h3⟩,h4,h5⟩
theorem rightB_iff(s : SideP)(read tell : Nat) : rightB s read tell = true ↔ RightP s read tell := by
  simp only[rightB,Bool.and_eq_true,decide_eq_true_eq];constructor
  ·rintro⟨⟨h1,h2⟩,h3⟩
   obtain⟨h4,h5⟩ := (rightGo_iff _ _ _ _ _ h2).1 h3;exact⟨h1,h2,h4,h5⟩
  ·intro H
   exact⟨⟨H.pos,H.len⟩,(rightGo_iff _ _ _ _ _ H.len).2 ⟨H.out,H.row⟩⟩
theorem soundB_iff(h : HedgeP) : soundB h = true ↔ SoundP h := by
  simp only[soundB,Bool.and_eq_true,decide_eq_true_eq,List.all_eq_true,rightB_iff];constructor
  ·rintro⟨⟨h1,h2⟩,h3⟩;exact⟨h1,h2,h3⟩
  ·intro H;exact⟨⟨H.pos,H.root⟩,H.labels⟩
theorem f_hedge_right(s : SideP)(read tell : Nat)(hs : s.out.length <= 1000000000)(hrd : read <= 1000000000) : Fn Tryz.prog n_hedge_right [s.v,.int .i64 read,.int .i64 tell] (.bool (rightB s read tell)) := by
  rw[SideP.v_eq];generalize hR : rightB s read tell = R;unfold rightB at hR;generalize s.next = nx at *;generalize s.out = ou at *;refine yoB i_hedge_right λho => ?_
  simp only[oks,ok,and_true]at ho;by_cases hp : 0<ou.length
  ·by_cases hl : nx.length = ou.length
   ·rw[decide_eq_true hp,decide_eq_true hl,Bool.true_and,Bool.true_and]at hR
    have g1 : ¬ (ou.length : Int)<1 := by omega
    simp(disch := omega) [-List.reduceReplicate,nxV,ouV,g1,hl]
    refine ah (λi : Nat => ⟨[(1,.int .i64 read),(2,.int .i64 tell),(3,.ptr 0 0),(7,.int .i64 ou.length),(25,.seq 1 (ou.map nV)),(26,.int .i64 ou.length),(27,.int .i64 i)],[some (.box [.seq 1 (nx.map λr => .seq 1 (r.map nV)),.seq 1 (ou.map nV)])]⟩)
      (λi => i <= ou.length /\ rightGo ou.length read tell (ou.drop i) (nx.drop i) = R) (λi => ou.length-i) [] _ 0 rfl (by simp) (by simp[hR]) ?_
    clear hR;rintro i ⟨hi,hg⟩ N hN;rcases place ou i hi with⟨he,hd⟩|⟨hlt,o,hoo,hd⟩
    ·rw[hd]at hg
     simp only[rightGo]at hg;subst hg;simp(disch := omega) [-List.reduceReplicate,he]
    ·obtain⟨r,hr⟩ := av (l := nx) (k := i) (by omega)
     rw[hd,r5 hr]at hg;simp only[rightGo]at hg;by_cases h1 : o<tell
     ·by_cases h2 : r.length = read
      ·have g2 : ¬ (o : Int)<0 := by omega
       have g3 : ¬ (tell : Int) <= o := by omega
       have g4 : (r.length : Int) = read := by omega
       rw[decide_eq_true h1,decide_eq_true h2,Bool.true_and,Bool.true_and]at hg;simp(disch := omega) [-List.reduceReplicate,hoo,hr,nV,g2,g3,h2]
       refine ah (λj : Nat => ⟨[(1,.int .i64 read),(2,.int .i64 tell),(3,.ptr 0 0),(7,.int .i64 ou.length),(25,.seq 1 (ou.map nV)),(26,.int .i64 ou.length),(27,.int .i64 i),(53,.seq 1 (r.map nV)),(54,.int .i64 read),(55,.int .i64 j)],[some (.box [.seq 1 (nx.map λr => .seq 1 (r.map nV)),.seq 1 (ou.map nV)])]⟩)
         (λj => j <= r.length /\ ((r.drop j).all (λx => decide (x<ou.length))&&rightGo ou.length read tell (ou.drop (i+1)) (nx.drop (i+1))) = R) (λj => r.length-j) [] _ 0 rfl (by simp) (by simp[hg]) ?_
       clear hg;rintro j ⟨hj,hg⟩ N' hN';rcases place r j hj with⟨he,hd2⟩|⟨hlt2,x,hx,hd2⟩ <;> rw[hd2]at hg
       ·simp only[List.all_nil,Bool.true_and]at hg
        clear hN';have g5 : (j : Int) = read := by omega
        simp(disch := omega) [-List.reduceReplicate,g5];exact hN.out _ <| Nx.mk (i+1) (by simp) ⟨by omega,hg⟩ (by omega)
       ·simp only[List.all_cons]at hg
        have g5 : (j : Int)<read := by omega
        by_cases h3 : x<ou.length
        ·rw[decide_eq_true h3,Bool.true_and]at hg
         have g6 : ¬ (x : Int)<0 := by omega
         have g7 : ¬ (ou.length : Int) <= x := by omega
         clear hN;simp(disch := omega) [-List.reduceReplicate,hx,nV,g5,g6,g7];exact hN'.out _ <| Nx.mk (j+1) (by simp) ⟨by omega,hg⟩ (by omega)
        ·rw[decide_eq_false h3,Bool.false_and,Bool.false_and]at hg
         subst hg;have g6 : ¬ (x : Int)<0 := by omega
         have g7 : (ou.length : Int) <= x := by omega
         clear hN hN';simp(disch := omega) [-List.reduceReplicate,hx,nV,g5,g6,g7]
      ·rw[decide_eq_true h1,decide_eq_false h2]at hg
       simp only[Bool.true_and,Bool.false_and]at hg;subst hg;have g2 : ¬ (o : Int)<0 := by omega
       have g3 : ¬ (tell : Int) <= o := by omega
       have g4 : ¬ (r.length : Int) = read := by omega
       clear hN;simp(disch := omega) [-List.reduceReplicate,hoo,hr,nV,g2,g3,h2,g4]
     ·rw[decide_eq_false h1]at hg
      simp only[Bool.false_and]at hg;subst hg;have g2 : ¬ (o : Int)<0 := by omega
      have g3 : (tell : Int) <= o := by omega
      clear hN;simp(disch := omega) [-List.reduceReplicate,hoo,hr,nV,g2,g3]
   ·rw[decide_eq_false hl]at hR
    simp only[Bool.and_false,Bool.false_and]at hR;subst hR;have g1 : ¬ (ou.length : Int)<1 := by omega
    have g2 : ¬ (nx.length : Int) = ou.length := by omega
    simp(disch := omega) [-List.reduceReplicate,nxV,ouV,g1,hl,g2]
  ·rw[decide_eq_false hp]at hR
   simp only[Bool.false_and]at hR;subst hR;have g1 : (ou.length : Int)<1 := by omega
   simp(disch := omega) [-List.reduceReplicate,nxV,ouV,g1]
theorem f_hedge_sound(h : HedgeP)(hs : ∀n,(sideAt h n).out.length <= 1000000000)(hst : h.states <= 1000000000)(hll : h.labels.length <= 1000000000) : Fn Tryz.prog n_hedge_sound [h.v] (.bool (soundB h)) := by
  have hroot := f_hedge_right h.root h.states 2 (by
    have := hs h.labels.length;unfold sideAt at this;rwa[List.getElem?_eq_none (Nat.le_refl _)]at this) hst
  have hlab : ∀s ∈ h.labels,Fn Tryz.prog n_hedge_right [s.v,.int .i64 h.states,.int .i64 h.states] (.bool (rightB s h.states h.states)) := λs hm => by
    obtain⟨n,hn⟩ := List.getElem?_of_mem hm;refine f_hedge_right s _ _ ?_ hst;have := hs n;unfold sideAt at this;rwa[hn]at this
  rw[HedgeP.v_eq];rw[SideP.v_eq]at hroot;generalize hR : soundB h = R;unfold soundB at hR;refine yoB i_hedge_sound λho => ?_
  simp only[oks,ok,and_true]at ho;by_cases h1 : 0<h.states
  ·have g1 : ¬ (h.states : Int)<1 := by omega
   rw[decide_eq_true h1,Bool.true_and]at hR;simp only[nxV,ouV]at hroot;simp(disch := omega) [-List.reduceReplicate,nxV,ouV,g1];refine aa hroot rfl λ_ => ?_
   cases hb : rightB h.root h.states 2 with
   |false =>
     rw[hb,Bool.false_and]at hR;subst hR;simp(disch := omega) [-List.reduceReplicate]
   |true =>
     rw[hb,Bool.true_and]at hR;simp(disch := omega) [-List.reduceReplicate]
     refine ah (λi : Nat => ⟨[(1,.ptr 0 0),(17,.seq 2 (h.labels.map SideP.v)),(18,.int .i64 h.labels.length),(19,.int .i64 i)],[some (.box [.int .i64 h.states,.seq 2 (h.labels.map SideP.v),.seq 1 (h.root.next.map λr => .seq 1 (r.map nV)),.seq 1 (h.root.out.map nV)])]⟩)
       (λi => i <= h.labels.length /\ (h.labels.drop i).all (λs => rightB s h.states h.states) = R) (λi => h.labels.length-i) [] _ 0 rfl (by simp) (by simp[hR]) ?_
     clear hR;rintro i ⟨hi,hg⟩ N hN;rcases place h.labels i hi with⟨he,hd⟩|⟨hlt,s,hs2,hd⟩ <;> rw[hd]at hg
     ·simp only[List.all_nil]at hg
      subst hg;simp(disch := omega) [-List.reduceReplicate,he]
     ·simp only[List.all_cons]at hg
      have hc := hlab s (List.mem_of_getElem? hs2);rw[SideP.v_eq]at hc;simp only[nxV,ouV]at hc;simp(disch := omega) [-List.reduceReplicate,hs2,SideP.v_eq,nxV,ouV];refine aa hc rfl λ_ => ?_
      cases hb2 : rightB s h.states h.states with
      |false =>
        rw[hb2,Bool.false_and]at hg;subst hg;clear hN;simp(disch := omega) [-List.reduceReplicate]
      |true =>
        rw[hb2,Bool.true_and]at hg;simp(disch := omega) [-List.reduceReplicate];exact hN.out _ <| Nx.mk (i+1) (by simp) ⟨by omega,hg⟩ (by omega)
  ·have g1 : (h.states : Int)<1 := by omega
   rw[decide_eq_false h1,Bool.false_and,Bool.false_and]at hR;subst hR;simp(disch := omega) [-List.reduceReplicate,g1]
end Go.Abs.F
end
section
set_option maxHeartbeats 4000000
set_option maxRecDepth 100000
namespace Go.Abs.F
open Go.Proofs
attribute [-simp] getElem?_pos Option.not_isSome List.map_map
theorem InvB.okPath{m : Mch}{sz : Nat -> Nat}{T : Nat}{S : FSK}{r : Nat×Nat -> Nat}{n b : Nat}(H : InvB m sz T S r n b)(p : Nat×Nat)(k : Stp)(d : Bool)(h : aget p S.marks = some (k,d)) :
    k.tree<0 \/ (0 <= k.tree /\ 0 <= k.src /\ (∃c,aget k.tree.toNat S.found = some c /\ ∃e,aget (c.num,c.st) S.marks = some e) /\ ∃e,aget (p.1,k.src.toNat) S.marks = some e) := by
  obtain⟨h1,h2⟩ := H.marks p k d h;rcases h2.back with⟨g1,_⟩|⟨g1,g2,g3,g4⟩
  ·exact .inl (by omega)
  ·obtain⟨_,c,hc⟩ := H.trees _ g3
   obtain⟨kc,hkc⟩ := (H.found _ c hc).2.2.2;obtain⟨ks,hks⟩ := g4;have e : k.num = p.1 := by rw[<- h1];rfl
   rw[e]at hks;exact .inr ⟨g1,g2,⟨c,hc,_,hkc⟩,_,hks⟩
theorem path_some{m : Mch}{sz : Nat -> Nat}{T : Nat}{S : FSK}{r : Nat×Nat -> Nat}{n b : Nat}(H : InvB m sz T S r n b) : ∀(N : Nat)(p : Nat×Nat)(k : Stp),aget p S.marks = some (k,true) -> r p<N -> ∃l,pathF S N p.1 k = some l
  |0,p,k,_,h => by omega
  |N+1,p,k,hk,hr => by
    obtain⟨h1,h2⟩ := H.marks p k true hk;obtain⟨_,hrank⟩ := H.rank p k hk;simp only[pathF];rcases h2.back with⟨g1,_⟩|⟨g1,g2,g3,ks,hks⟩
    ·exact⟨[],by rw[if_pos (by omega)]⟩
    ·rw[if_neg (by omega)]
     obtain⟨r1,r2⟩ := hrank g1;obtain⟨_,c,hc⟩ := H.trees _ g3;obtain⟨kc,hkc⟩ := (H.found _ c hc).2.2.2;have e : k.num = p.1 := by rw[<- h1];rfl
     rw[e]at hks r1;have r3 := r2 c hc;have e1 : srcOf S k.tree.toNat = c := by unfold srcOf;rw[hc];rfl
     have e2 : markOf S (c.num,c.st) = (kc,true) := by unfold markOf;rw[hkc];rfl
     have e3 : markOf S (p.1,k.src.toNat) = (ks,true) := by unfold markOf;rw[hks];rfl
     obtain⟨l1,hl1⟩ := path_some H N (c.num,c.st) kc hkc (by omega)
     obtain⟨l2,hl2⟩ := path_some H N (p.1,k.src.toNat) ks hks (by omega)
     simp only[e1,e2,e3];simp only at hl1 hl2;rw[hl1,hl2];exact⟨_,rfl⟩
def leastP(m : Mch)(f : Nat) : Option (Option (List Tr)) :=
  match runP m f (beginP (m.labels+1))with
  |none => none
  |some (none,_) => some none
  |some (some e,S) => if 2147483647<e.cost then some none else(pathF S 1000000000 e.num e).map λl => some l.reverse
def trsV2(o : Option (List Tr)) : V := .tup [.seq 2 ((o.getD []).map Tr.v),.bool o.isSome]
section
variable{m : Mch}{sz : Nat -> Nat}{T : Nat}(hm : PureV m.v)(hp : pur [] m.v = some m.v)(hok : MchOK m sz T)(hsz : ∀n,sz n <= 1000000)(hlab : m.labels <= 900000)(hT : T <= 1000000)
    (hnext : ∀p t,InP m sz p -> t<T -> Fn Tryz.prog n_hedge_together_next [m.v,.int .i64 p.1,.int .i64 p.2,.int .i64 t] (.int .i64 (m.next p.1 p.2 t : Nat)))
    (hout : ∀p,InP m sz p -> Fn Tryz.prog n_hedge_together_out [m.v,.int .i64 p.1,.int .i64 p.2] (.int .i64 (m.out p.1 p.2 : Nat)))
    (hlb : Fn Tryz.prog n_hedge_together_labels [m.v] (.int .i64 m.labels))
    (hP : (allP m sz).length <= 900000000) (hPT : m.labels+1+((allP m sz).length+1)*(T+1) <= 800000000000)
include hm hp hok hsz hlab hT hnext hout hlb hP hPT
theorem least_some : ∃f res,leastP m f = some res := by
  have H := beginP_inv hok;obtain⟨f,⟨x,S⟩,hR⟩ := run_some hok _ _ H (Nat.le_refl _) (Nat.le_refl _);refine⟨f,?_⟩;unfold leastP;rw[hR];cases x with
  |none => exact⟨_,rfl⟩
  |some e =>
    simp only;split
    ·exact⟨_,rfl⟩
    ·obtain⟨r,n,b,H2,hn,hx⟩ := run_end hok f H hR
     obtain⟨h1,_⟩ := hx e rfl;obtain⟨l,hl⟩ := path_some H2 1000000000 e.pl e h1 (by have := (H2.rank _ _ h1).1;omega)
     simp only[Stp.pl]at hl;rw[hl];exact⟨_,rfl⟩
theorem f_hedge_least(f : Nat)(res : Option (List Tr))(hres : leastP m f = some res) : Fn Tryz.prog n_hedge_least [.iface ty_hedge_together m.v] (trsV2 res) := by
  have e1 := hm.aF;have e2 := hm.ren;have e3 := hm.bck;have hpu : ∀h,pur h m.v = some m.v := λh => (Vb hp).2 h
  have H := beginP_inv hok;unfold leastP at hres;cases hR : runP m f (beginP (m.labels+1))with
  |none => rw[hR]at hres;cases hres
  |some xs =>
    obtain⟨x,S⟩ := xs;rw[hR]at hres;have hbeg := f_hedge_begin hm (m.labels+1) (by omega) (ty := ty_hedge_together)
    have hrun := f_finder_run hm hp hok hsz (by omega) hT hnext hout hlb (by omega) hPT f (beginP (m.labels+1)) _ _ H x S hR
    obtain⟨r,n,b,H2,hn,hx⟩ := run_end hok f H hR;have hcast : ((m.labels+1 : Nat) : Int) = m.labels+1 := by omega
    rw[hcast]at hbeg;generalize beginP (m.labels+1) = S0 at *;unfold trsV2;refine Fn.of_imageE mixed i_hedge_least.1 i_hedge_least.2 rfl λho => ?_
    simp only[oks,ok,and_true]at ho;simp(disch := omega) [-List.reduceReplicate,hpu,e1,e2];refine aa hlb rfl λ_ => ?_
    simp(disch := omega) [-List.reduceReplicate,hpu,e1,e2];refine am [] 0 [] (by simp) (by simp[e1,e2]) (by simp[e1,e2]) (by simp) hbeg (by simp) λ_ _ => ?_
    simp(disch := omega) [-List.reduceReplicate,FAK,FFK,FHK,List.range',List.replicate,e1,e2,e3];refine am [0] 1 [0,1,2,3,4,5] (by simp) (by simp[e1,e2]) (by simp) (by simp[FAK,FFK,FHK,e1,e2]) hrun (by simp[FAK,FFK,FHK]) λ_ _ => ?_
    cases x with
    |none =>
      simp only[Option.some.injEq]at hres;subst hres;simp(disch := omega) [-List.reduceReplicate,FAK,FFK,FHK,Stp.v,Stp.z,List.range',List.replicate,e1,e2,e3]
    |some e =>
      obtain⟨h1,h2,h3,h4⟩ := hx e rfl;simp only at hres;by_cases hc : 2147483647<e.cost
      ·rw[if_pos hc]at hres
       cases hres;have hc' : (2147483647 : Int)<e.cost := by omega
       simp(disch := omega) [-List.reduceReplicate,FAK,FFK,FHK,Stp.v,hc',List.range',List.replicate,e1,e2,e3]
      ·rw[if_neg hc]at hres
       have hc' : ¬ (2147483647 : Int)<e.cost := by omega
       obtain⟨l,hl,rfl⟩ := Option.map_eq_some_iff.1 hres;have hpath := f_finder_path hm S H2.okPath 1000000000 e.num e.st l e true (by omega) h1 hl (ty := ty_hedge_together)
       simp(disch := omega) [-List.reduceReplicate,FAK,FFK,FHK,Stp.v,hc',List.range',List.replicate,e1,e2,e3];refine am [0] 1 [0,6,7,8,9,10] (by simp) (by simp[e1,e2]) (by simp) (by simp[FAK,FFK,FHK,e1,e2]) hpath (by simp[FAK,FFK,FHK,FGK]) λ_ _ => ?_
       simp(disch := omega) [-List.reduceReplicate,FGK,List.range',List.replicate,e1,e2,e3]
end
end Go.Abs.F
end
section
set_option maxHeartbeats 4000000
set_option maxRecDepth 100000
namespace Go.Abs.F
open Go.Proofs Go.RowKit
attribute [-simp] getElem?_pos Option.not_isSome List.map_map
abbrev n_slices_CloneIIint_int : Nat := 110
def ren_n15 : Go.Shelf.Ren := ⟨λx => match x with|15 => n_slices_CloneIIint_int|n => n,λx => match x with|22 => aN|n => n,λx => x⟩
theorem lays_n15 : Lays2.n15 Tryz.prog ren_n15 where
  mixed := by kernel_rfl
  f15 := Tryz.func110.trans (congrArg some (by kernel_rfl))
  t3 := Tryz.underlying3
  a3 := Tryz.isAgg3
  z3 := Tryz.sizeOf3
  v3 := Tryz.zeroValue3
  t4 := Tryz.underlying4
  a4 := Tryz.isAgg4
  z4 := Tryz.sizeOf4
  v4 := Tryz.zeroValue4
  t22 := Tryz.underlying54
  a22 := Tryz.isAgg54
  z22 := Tryz.sizeOf54
  v22 := Tryz.zeroValue54
  i3 := by kernel_rfl
theorem repMem_ints{M : Mem} : ∀(l : List Nat)(b off : Nat),cx M 1 (l.map nV) b off -> ∀(j x : Nat),l[j]? = some x -> M ⟨b,off+j,none⟩ = some (.int .i64 x)
  |[],b,off,h,j,x,hj => by simp at hj
  |y :: l,b,off,h,j,x,hj => by
    simp only[List.map_cons,cx]at h;obtain⟨⟨v,h1,h2,h3,h4⟩,h5⟩ := h;cases j with
    |zero =>
      simp at hj;subst hj;simp only[nV,rep]at h1;obtain⟨rfl,_⟩ := h1;have := h4 0 (by omega)
      simpa[Value.cells]using this
    |succ j =>
      simp only[List.getElem?_cons_succ]at hj;have := repMem_ints l b (off+1) h5 j x hj;rwa[show off+(j+1) = off+1+j by omega]
theorem repRow_ints{M : Mem} : ∀(l : List Nat),(∀x ∈ l,(x : Int) <= 9223372036854775807) -> aB M 1 (l.map nV) (l.map λx : Nat => Value.int .i64 x)
  |[],_ => by simp[aB]
  |x :: l,h => by
    simp only[List.map_cons,aB];refine⟨.int .i64 x,l.map λx : Nat => Value.int .i64 x,by simp[Value.cells],?_,by simp[Value.cells],?_,repRow_ints l λy hy => h y (by simp[hy])⟩
    ·have := h x (by simp)
     simp only[nV,rep,min64,max64,true_and];omega
    ·intro u hu
     simp[Value.cells]at hu;subst hu;rfl
theorem f_slices_CloneK(l : List Nat)(hl : l.length <= 1000000000) : FnH Tryz.prog n_slices_CloneIIint_int [] [.seq 1 (l.map nV)] [] (.ref 0 l.length) [some (.arr ap 1 (l.map nV))] := by
  intro M w κ cs J hJC hH hus o a Nx Q hN
  have hlow : ∀x ∈ l,(x : Int) <= 9223372036854775807 := by
    have := gI hus;simp only[oks,ok,aaI]at this;intro x hx;have h2 := this.1.2 (nV x) (List.mem_map.2 ⟨x,hx,rfl⟩);simp only[nV,ok,max64]at h2;exact h2.2
  obtain⟨cl⟩ := cs;simp only[af]at hus;obtain⟨c,_,rfl,hc,rfl⟩ := hus;simp only[rep,List.length_map]at hc;obtain⟨ad,cap,rfl,hcap,_,_,hmem⟩ := hc;have hcall : ∀args w,(callFunc n_slices_CloneIIint_int args).run Tryz.prog w = .ok (.enter n_slices_CloneIIint_int args) w := λargs w => enters_of (f := n_slices_CloneIIint_int) lays_n15.f15 (by kernel_rfl) rfl args w
  rw[hcall,Oper.upon_enter]
  have key : Calls Tryz.prog n_slices_CloneIIint_int #[.slice ad l.length cap] w λe w' => ∃v',e = .returned v' /\ w'.ownsRow w.heap.size ap 1 v' l.length (l.map λx : Nat => Value.int .i64 x) /\ Below w.heap.size w w' := by
    rcases hmem with h0|⟨b,off,rfl,hmem⟩
    ·have h0 : l = [] := by simpa using h0
     subst h0;cases ad with
     |none =>
       refine(Any.slices_Clone_int_nil lays_n15 0 cap w).mono ?_;rintro e w' ⟨rfl,rfl⟩;exact⟨_,rfl,World.ownsRow_nil _ _ _ _,Below.refl _ _⟩
     |some a0 =>
       refine(Any.slices_Clone_int_zero lays_n15 a0 cap w).mono ?_;rintro e w' ⟨v',rfl,h1,_,h2⟩;exact⟨v',rfl,h1,h2⟩
    ·refine(Any.slices_Clone_int lays_n15 b off l.length cap (l.map λx : Nat => (x : Int)) w (by simp) (by omega) (λj hj => ?_)).mono ?_
     ·obtain⟨x,hx⟩ := av (l := l) (k := j) (by simpa using hj)
      have := hH.snd _ _ (repMem_ints l b off hmem j x hx);rw[this];simp[List.getD,List.getElem?_map,hx]
     ·rintro e w' ⟨v',rfl,h1,_,h2⟩
      refine⟨v',rfl,?_,h2⟩
      have e1 : (List.take l.length (l.map λx : Nat => (x : Int))).map (Value.int .i64) = l.map λx : Nat => Value.int .i64 x := by
        rw[List.take_of_length_le (by simp),List.map_map];rfl
      rw[e1]at h1;exact h1
  refine key.mono ?_;rintro e w' ⟨v',rfl,hown,hbel⟩
  have hcell : aI v' := by
    rcases hown.2 with⟨h,_⟩|⟨g,cp,cur,h,_⟩ <;> rw[h] <;> rfl
  have hblk : ∀g,blk v' = some g -> w.heap.size <= g /\ g<w'.heap.size := λg hg => by
    rcases hown.2 with⟨h,_⟩|⟨g',cp,cur,h,h1,h2,_⟩
    ·rw[h]at hg;cases hg
    ·rw[h]at hg;cases hg;exact⟨h1,(Array.getElem?_eq_some_iff.1 h2).1⟩
  have hsnd : ∀p v,M p = some v -> w'.cell? p = some v := λp v hp => by
    have h5 := hH.snd p v hp;rw[World.cell?_of_block (hbel.block p.block (World.block_lt_of_cell? w p h5))];exact h5
  refine hN v' M w' (upd κ 0 v') ?_ ⟨hbel.os,hbel.tape,hbel.output,hbel.size,λk hk _ => hbel.block k hk,λk cu T z hk => ⟨cu,T,z,by rw[hbel.block k (Array.getElem?_eq_some_iff.1 hk).1];exact hk,rfl⟩⟩ ?_ (λ_ _ h => h) (λ_ _ h => .inl h) (λi hi => by cases hi)
  ·simp only[rep,XX]
   refine⟨hcell,by simp,λe2 sz2 l2 h => ?_,λ_ _ _ _ h => by simp at h,λo h hn => by simp at h;subst h;cases hn⟩
   simp at h;obtain⟨rfl,rfl,rfl⟩ := h;exact⟨by simp,λ_ => cq.symm⟩
  ·refine{ heap := λid ob hid => ?_,inj := λi j oi oj g' hi hj _ _ => ?_,snd := hsnd,sep := λp v hp id ob hid => ?_,fmS := hH.fmS,gl := hH.gl,jst := hH.jst }
   ·cases id with
    |zero =>
      simp at hid;subst hid;simp only[bn];refine⟨by omega,by simp;omega,l.map λx : Nat => Value.int .i64 x,?_,repRow_ints l hlow,λg h => ?_,λg => ?_⟩
      ·rw[cq,List.length_map];exact⟨hown.1,hown.2.imp id λ⟨g,cp,cur,h1,_,h3⟩ => ⟨g,cp,cur,h1,Nat.zero_le _,h3⟩⟩
      ·have : blk v' = some g := by simpa[dy]using h
       exact .inl (hblk g this).1
      ·simp[dy]
    |succ id => simp at hid
   ·have : i = 0 := by cases i <;> simp at hi⊢
    have : j = 0 := by cases j <;> simp at hj⊢
    omega
   ·have : id = 0 := by cases id <;> simp at hid⊢
    subst this;intro hb;have hb2 : blk v' = some p.block := by simpa[dy]using hb
    have := (hblk _ hb2).1;have := World.block_lt_of_cell? w p (hH.snd p v hp);omega
def ltK(e sz : Nat)(d : Option Nat)(σ : St)(K : St -> Prop)(vs : List V) : Prop := oM (purs σ.h vs) λus => cw sz us = true /\ us.length <= 16777216 /\ K (St.put ⟨(σ.kill (ax vs)).r,(σ.kill (ax vs)).h ++ [some (Ob.arr e sz us)]⟩ d (.ref (σ.kill (ax vs)).h.length us.length))
theorem a_ltrK{Φ : Ctr}{d : Option Nat}{K : St -> Prop}{σ : St}{e sz : Nat}{xs : List AO} : ak Φ d (.ltr e sz xs) K σ = oM (σ.evs xs) (ltK e sz d σ K) := by
  simp only[ak,oM];cases σ.evs xs with
  |none => rfl
  |some vs => simp only[ltK,oM];cases purs σ.h vs <;> rfl
theorem aD_ltrK{Φ : Ctr}{d : Option Nat}{K : St -> Prop}{σ : St}{e sz : Nat}{xs : List AO} : an Φ d (.ltr e sz xs) K σ = oM (σ.evs xs) (ltK e sz d σ K) := a_ltrK (Φ := Φ)
attribute [local simp] a_ltrK aD_ltrK ltK
abbrev rowVK(r : List Nat) : V := .seq 1 (r.map nV)
theorem f_hedge_clone(s : SideP)(ho1 : s.out.length <= 1000000000)(hn1 : s.next.length <= 1000000000)(hr1 : ∀r ∈ s.next,r.length <= 1000000000) :
    FnH Tryz.prog n_hedge_clone [] [s.v] [] (.strct [.ref 0 s.next.length,.ref 1 s.out.length]) [some (.arr aN 1 (s.next.map rowVK)),some (.arr ap 1 (s.out.map nV))] := by
  have hco := f_slices_CloneK s.out ho1;have hcr := λr hr => f_slices_CloneK r (hr1 r hr)
  rw[SideP.v_eq];generalize s.next = nx at *;generalize s.out = ou at *;refine FnH.of_image mixed Tryz.func70 i_hedge_clone rfl λho hh => ?_
  unfold c_hedge_clone;clear ho hh;simp(disch := omega) [-List.reduceReplicate,nxV,ouV];refine am [] 0 [] (by simp) (by simp) (by simp) (by simp) hco (by simp) λ_ _ => ?_
  simp(disch := omega) [-List.reduceReplicate]
  refine ah (λi : Nat => ⟨[(2,.ptr 0 0),(3,.ptr 1 0),(11,.seq 1 (nx.map λr => .seq 1 (r.map nV))),(12,.int .i64 nx.length),(13,.int .i64 i)],
    [some (.box [.nil 1,.nil 1]),some (.box [.ref 2 i,.ref 3 ou.length]),some (.arr aN 1 ((nx.take i).map rowVK)),some (.arr ap 1 (ou.map nV))]⟩) (λi => i <= nx.length) (λi => nx.length-i) [.b 3 0 aN 1] _ 0 rfl (by simp) (by simp) ?_
  intro i hi N hN;rcases place nx i hi with⟨he,hd⟩|⟨hlt,r,hr,hd⟩
  ·subst he
   have ht : nx.take nx.length = nx := List.take_of_length_le (Nat.le_refl _);simp(disch := omega) [-List.reduceReplicate,ht]
  ·have hc := hcr r (List.mem_of_getElem? hr)
   have hst : (nx.take (i+1)).map rowVK = (nx.take i).map rowVK ++ [.seq 1 (r.map nV)] := by
     rw[List.take_add_one,hr];simp[rowVK]
   have hlen : ((nx.take i).map rowVK).length = i := by simp;omega
   generalize(nx.take i).map rowVK = X at *;simp(disch := omega) [-List.reduceReplicate,hr]
   refine wboth_K ⟨[(2,.ptr 0 0),(3,.ptr 1 0),(11,.seq 1 (nx.map λr => .seq 1 (r.map nV))),(12,.int .i64 nx.length),(13,.int .i64 i)],
     [some (.box [.nil 1,.nil 1]),some (.box [.ref 2 (i+1),.ref 3 ou.length]),some (.arr aN 1 (X ++ [.seq 1 (r.map nV)])),some (.arr ap 1 (ou.map nV))]⟩ (λF hF => ?_) ?_
   ·simp only[aN,ap]at hF
    repeat' (first
      |with_reducible exact hF
      |refine QU.mk ?_ ?_
      |refine wcallHD_mkK [] 0 [] (by simp) (by simp) (by simp) (by simp) hc (by simp) ?_
      |(simp(disch := omega) [-List.reduceReplicate,List.range',List.replicate,hlen]))
   simp(disch := omega) [-List.reduceReplicate];exact hN.out _ <| Nx.mk (i+1) (by simp[hst]) (by omega) (by omega)
end Go.Abs.F
end
section
set_option maxHeartbeats 4000000
set_option maxRecDepth 100000
namespace Go.Abs.F
open Go.Proofs
attribute [-simp] getElem?_pos Option.not_isSome List.map_map
attribute [local simp] a_ltrK aD_ltrK ltK
def flipO(o : Nat) : Nat := if o = 0 then 1 else if o = 1 then 0 else o
def notP(h : HedgeP) : HedgeP := ⟨h.states,h.labels,⟨h.root.next,h.root.out.map flipO⟩⟩
def mixO(l : List Nat)(i : Nat) : List Nat := (l.take i).map flipO ++ l.drop i
theorem mixO_len(l : List Nat)(i : Nat)(h : i <= l.length) : (mixO l i).length = l.length := by simp[mixO];omega
theorem mixO_get{l : List Nat}{i o : Nat}(h : l[i]? = some o) : (mixO l i)[i]? = some o := by
  have hl := (List.getElem?_eq_some_iff.1 h).1;unfold mixO;rw[List.getElem?_append_right (by simp;omega)]
  have : i-(List.map flipO (List.take i l)).length = 0 := by simp;omega
  rw[this,List.getElem?_drop,Nat.add_zero];exact h
theorem mixO_set{l : List Nat}{i o : Nat}(h : l[i]? = some o) : (mixO l i).set i (flipO o) = mixO l (i+1) := by
  have hl := (List.getElem?_eq_some_iff.1 h).1;unfold mixO;rw[List.set_append_right _ _ (by simp;omega)]
  have : i-(List.map flipO (List.take i l)).length = 0 := by simp;omega
  rw[this,r5 h,List.set_cons_zero,List.take_add_one,h];simp
theorem mixO_all(l : List Nat) : mixO l l.length = l.map flipO := by simp[mixO]
theorem f_hedge_Not(h : HedgeP)(hs : ∀n,(sideAt h n).out.length <= 1000000000 /\ (sideAt h n).next.length <= 1000000000 /\ ∀r ∈(sideAt h n).next,r.length <= 1000000000)(hll : h.labels.length <= 1000000000) :
    Fn Tryz.prog n_hedge_Not [h.v] (notP h).v := by
  have hroot : FnH Tryz.prog n_hedge_clone [] [h.root.v] [] (.strct [.ref 0 h.root.next.length,.ref 1 h.root.out.length]) [some (.arr aN 1 (h.root.next.map rowVK)),some (.arr ap 1 (h.root.out.map nV))] := by
    have := hs h.labels.length;unfold sideAt at this;rw[List.getElem?_eq_none (Nat.le_refl _),Option.getD_none]at this;exact f_hedge_clone h.root this.1 this.2.1 this.2.2
  have hlab : ∀s ∈ h.labels,FnH Tryz.prog n_hedge_clone [] [s.v] [] (.strct [.ref 0 s.next.length,.ref 1 s.out.length]) [some (.arr aN 1 (s.next.map rowVK)),some (.arr ap 1 (s.out.map nV))] := λs hm => by
    obtain⟨n,hn⟩ := List.getElem?_of_mem hm;have := hs n;unfold sideAt at this;rw[hn,Option.getD_some]at this;exact f_hedge_clone s this.1 this.2.1 this.2.2
  have hol : h.root.out.length <= 1000000000 := by
    have := hs h.labels.length;unfold sideAt at this;rw[List.getElem?_eq_none (Nat.le_refl _),Option.getD_none]at this;exact this.1
  rw[HedgeP.v_eq,HedgeP.v_eq];simp only[notP];rw[SideP.v_eq]at hroot;simp only[nxV,ouV]at hroot;generalize h.states = Z at *;generalize h.labels = L at *;generalize h.root.next = nx at *;generalize h.root.out = ou at *;refine Fn.of_imageE mixed Tryz.func46 i_hedge_Not rfl λho => ?_
  unfold c_hedge_Not;simp only[oks,ok,and_true]at ho;clear ho;simp(disch := omega) [-List.reduceReplicate,nxV,ouV]
  refine wboth_K ⟨[(1,.ptr 0 0),(2,.ptr 1 0),(3,.ptr 2 0)],
    [some (.box [.int .i64 Z,.seq 2 (L.map SideP.v),.seq 1 (nx.map rowVK),.seq 1 (ou.map nV)]),some (.box [.int .i64 0,.nil 2,.nil 1,.nil 1]),some (.box [.int .i64 Z,.nil 2,.ref 3 nx.length,.ref 4 ou.length]),some (.arr aN 1 (nx.map rowVK)),some (.arr ap 1 (ou.map nV))]⟩ (λF hF => ?_) ?_
  ·simp only[aN,ap]at hF
   repeat' (first
     |with_reducible exact hF
     |refine QU.mk ?_ ?_
     |refine wcallHD_mkK [] 0 [] (by simp) (by simp) (by simp) (by simp) hroot (by simp) ?_
     |(simp(disch := omega) [-List.reduceReplicate,List.range',List.replicate]))
  simp(disch := omega) [-List.reduceReplicate]
  refine ah (λi : Nat => ⟨[(2,.ptr 0 0),(3,.ptr 1 0),(15,.seq 2 (L.map SideP.v)),(16,.int .i64 L.length),(17,.int .i64 i)],
    [some (.box [.int .i64 0,.nil 2,.nil 1,.nil 1]),some (.box [.int .i64 Z,.ref 2 i,.ref 3 nx.length,.ref 4 ou.length]),some (.arr vp 2 ((L.take i).map SideP.v)),some (.arr aN 1 (nx.map rowVK)),some (.arr ap 1 (ou.map nV))]⟩) (λi => i <= L.length) (λi => L.length-i) [.b 2 1 vp 2] _ 0 rfl (by simp) (by simp) ?_
  intro i hi N hN;rcases place L i hi with⟨he,hd⟩|⟨hlt,s,hs2,hd⟩
  ·subst he
   have ht : L.take L.length = L := List.take_of_length_le (Nat.le_refl _);clear hN;simp(disch := omega) [-List.reduceReplicate,ht]
   refine ah (λi : Nat => ⟨[(2,.ptr 0 0),(3,.ptr 1 0),(31,.ref 2 ou.length),(32,.int .i64 ou.length),(33,.int .i64 i)],
     [some (.box [.int .i64 0,.nil 2,.nil 1,.nil 1]),some (.box [.int .i64 Z,.ref 3 L.length,.ref 4 nx.length,.ref 2 ou.length]),some (.arr ap 1 ((mixO ou i).map nV)),some (.arr vp 2 (L.map SideP.v)),some (.arr aN 1 (nx.map rowVK))]⟩) (λi => i <= ou.length) (λi => ou.length-i) [] _ 0 rfl (by simp[mixO]) (by simp) ?_
   intro i hi N hN;have hml := mixO_len ou i hi;rcases place ou i hi with⟨he,hd⟩|⟨hlt,o,ho2,hd⟩
   ·subst he
    have hma := mixO_all ou;simp(disch := omega) [-List.reduceReplicate,hma]
   ·have hg := mixO_get ho2
    have hst := mixO_set ho2;have hstV : ((mixO ou i).map nV).set i (nV (flipO o)) = (mixO ou (i+1)).map nV := by rw[<- List.map_set,hst]
    have hml' : ((mixO ou i).map nV).length = ou.length := by simp[hml]
    have hgV : ((mixO ou i).map nV)[i]? = some (.int .i64 o) := by rw[List.getElem?_map,hg];rfl
    have hself : flipO o = o -> ((mixO ou i).map nV) = (mixO ou (i+1)).map nV := λe => by
      rw[<- hstV,e];refine(List.ext_getElem? λj => ?_)
      rw[List.getElem?_set];split
      ·rename_i hj;subst hj;rw[if_pos (by omega),hgV];rfl
      ·rfl
    generalize hX : (mixO ou i).map nV = X at *;by_cases h0 : o = 0
    ·subst h0
     simp only[flipO,if_true,nV]at hstV;simp(disch := omega) [-List.reduceReplicate,hml',hgV];exact hN.out _ <| Nx.mk (i+1) (by simp;exact hstV) (by omega) (by omega)
    ·by_cases h1 : o = 1
     ·subst h1
      simp only[flipO,nV]at hstV;simp(disch := omega) [-List.reduceReplicate,hml',hgV];exact hN.out _ <| Nx.mk (i+1) (by simp;exact hstV) (by omega) (by omega)
     ·have hs3 := hself (by simp[flipO,h0,h1])
      have h0' : ¬ (o : Int) = 0 := by omega
      have h1' : ¬ (o : Int) = 1 := by omega
      simp(disch := omega) [-List.reduceReplicate,hml',hgV,h0,h1,h0',h1'];exact hN.out _ <| Nx.mk (i+1) (by simp;exact hs3) (by omega) (by omega)
  ·have hc := hlab s (List.mem_of_getElem? hs2)
   rw[SideP.v_eq]at hc;simp only[nxV,ouV]at hc;have hsv : s.v = .strct [.seq 1 (s.next.map rowVK),.seq 1 (s.out.map nV)] := rfl
   have hst : (L.take (i+1)).map SideP.v = (L.take i).map SideP.v ++ [.strct [.seq 1 (s.next.map rowVK),.seq 1 (s.out.map nV)]] := by
     rw[List.take_add_one,hs2];simp[hsv]
   have hlen : ((L.take i).map SideP.v).length = i := by simp;omega
   generalize(L.take i).map SideP.v = X at *;simp(disch := omega) [-List.reduceReplicate,hs2,hsv]
   refine wboth_K ⟨[(2,.ptr 0 0),(3,.ptr 1 0),(15,.seq 2 (L.map SideP.v)),(16,.int .i64 L.length),(17,.int .i64 i)],
     [some (.box [.int .i64 0,.nil 2,.nil 1,.nil 1]),some (.box [.int .i64 Z,.ref 2 (i+1),.ref 3 nx.length,.ref 4 ou.length]),some (.arr vp 2 (X ++ [.strct [.seq 1 (s.next.map rowVK),.seq 1 (s.out.map nV)]])),some (.arr aN 1 (nx.map rowVK)),some (.arr ap 1 (ou.map nV))]⟩ (λF hF => ?_) ?_
   ·simp only[aN,ap,vp]at hF
    repeat' (first
      |with_reducible exact hF
      |refine QU.mk ?_ ?_
      |refine wcallHD_mkK [] 0 [] (by simp) (by simp) (by simp) (by simp) hc (by simp) ?_
      |(simp(disch := omega) [-List.reduceReplicate,List.range',List.replicate,hlen,hsv]))
   simp(disch := omega) [-List.reduceReplicate];exact hN.out _ <| Nx.mk (i+1) (by simp[hst]) (by omega) (by omega)
end Go.Abs.F
end
section
set_option maxHeartbeats 4000000
set_option maxRecDepth 100000
namespace Go.Abs.F
open Go.Proofs
attribute [-simp] getElem?_pos Option.not_isSome List.map_map
theorem flat_lenK{α β : Type}{f : α -> List β}{B : Nat} : ∀(l : List α),(∀x ∈ l,(f x).length <= B) -> (l.flatMap f).length <= l.length*B
  |[],_ => by simp
  |x :: l,h => by
    have h1 := flat_lenK l λy hy => h y (by simp[hy])
    have h2 := h x (by simp)
    rw[List.flatMap_cons,List.length_append,List.length_cons,Nat.add_mul];omega
theorem allP_len(m : Mch)(sz : Nat -> Nat)(B : Nat)(h : ∀n,sz n <= B) : (allP m sz).length <= (m.labels+1)*B := by
  have := flat_lenK (f := λn => (List.range (sz n)).map λs => (n,s)) (B := B) (List.range (m.labels+1)) λn _ => by simpa using h n
  simpa[allP]using this
def togSz(g h : HedgeP)(n : Nat) : Nat := (sideAt g n).out.length*(sideAt h n).out.length
theorem mul_add_lt{a b x y : Nat}(hx : x<a)(hy : y<b) : x*b+y<a*b := by
  have : (x+1)*b <= a*b := Nat.mul_le_mul_right _ hx;rw[Nat.add_mul]at this;omega
theorem togOK{g h : HedgeP}(Hg : SoundP g)(Hh : SoundP h)(hl : g.labels.length = h.labels.length) : MchOK (togM g h) (togSz g h) (g.states*h.states) where
  pos := λn _ => Nat.mul_pos (Hg.side n).pos (Hh.side n).pos
  next := λn _ s hs t ht => by
    have hBp := (Hh.side n).pos;obtain⟨r1,x1,e1,e2,e3⟩ := (Hg.side n).next (a := s/(sideAt h n).out.length) (b := t/h.states) (div_lt_of hs) (div_lt_of ht);obtain⟨r2,x2,e4,e5,e6⟩ := (Hh.side n).next (a := s%(sideAt h n).out.length) (b := t%h.states) (Nat.mod_lt _ hBp) (Nat.mod_lt _ Hh.pos);simp only[togM,nextAt,e1,e2,e4,e5,Option.getD_some];exact mul_add_lt e3 e6
  out := λn hn s hs => by
    have hn' : n<g.labels.length := hn;have hBp := (Hh.side n).pos;obtain⟨x1,e1,e3⟩ := (Hg.side n).tell (a := s/(sideAt h n).out.length) (div_lt_of hs);obtain⟨x2,e4,e6⟩ := (Hh.side n).tell (a := s%(sideAt h n).out.length) (Nat.mod_lt _ hBp);rw[if_pos hn']at e3;rw[if_pos (by omega)]at e6
    simp only[togM,outAt,e1,e4,Option.getD_some,if_neg (show ¬ n = g.labels.length by omega)]
    exact mul_add_lt e3 e6
theorem togPure(g h : HedgeP) : PureV (togM g h).v := ⟨by simp[togM,togV,nxV,ouV],λm => by simp[togM,togV,nxV,ouV],λm => by simp[togM,togV,nxV,ouV]⟩
structure FewH (h : HedgeP) : Prop where
  states : h.states <= 200
  labels : h.labels.length <= 199
  side : ∀n,(sideAt h n).out.length <= 200 /\ (sideAt h n).next.length <= 200 /\ ∀r ∈(sideAt h n).next,r.length <= 200
def CommonR(g h : HedgeP)(res : Option (List Tr)) : Prop :=
  (¬ (g.labels.length = h.labels.length /\ SoundP g /\ SoundP h) /\ res = none) \/ (g.labels.length = h.labels.length /\ SoundP g /\ SoundP h /\ ∃f,leastP (togM g h) f = some res)
theorem f_hedge_Common(g h : HedgeP)(Fg : FewH g)(Fh : FewH h) : ∃res,CommonR g h res /\ Fn Tryz.prog n_hedge_Common [g.v,h.v] (trsV2 res) := by
  have hsg := f_hedge_sound g (λn => by have := (Fg.side n).1;omega) (by have := Fg.states;omega) (by have := Fg.labels;omega)
  have hsh := f_hedge_sound h (λn => by have := (Fh.side n).1;omega) (by have := Fh.states;omega) (by have := Fh.labels;omega)
  by_cases hl : g.labels.length = h.labels.length
  ·by_cases hg : SoundP g
   ·by_cases hh : SoundP h
    ·have hsz : ∀n,togSz g h n <= 40000 := λn => by
       have : togSz g h n <= 200*200 := Nat.mul_le_mul (Fg.side n).1 (Fh.side n).1;omega
     have hT : g.states*h.states <= 40000 := by
       have : g.states*h.states <= 200*200 := Nat.mul_le_mul Fg.states Fh.states;omega
     have hP0 := allP_len (togM g h) (togSz g h) 40000 hsz;have hlb : (togM g h).labels = g.labels.length := rfl;have hgl := Fg.labels
     have hP : (allP (togM g h) (togSz g h)).length <= 8000000 := by
       refine Nat.le_trans hP0 ?_;have : ((togM g h).labels+1)*40000 <= 200*40000 := Nat.mul_le_mul (by rw[hlb];omega) (Nat.le_refl _)
       omega
     have hPT : (togM g h).labels+1+((allP (togM g h) (togSz g h)).length+1)*(g.states*h.states+1) <= 800000000000 := by
       have : ((allP (togM g h) (togSz g h)).length+1)*(g.states*h.states+1) <= 8000001*40001 := Nat.mul_le_mul (by omega) (by omega)
       rw[hlb];omega
     have hp : pur [] (togM g h).v = some (togM g h).v := by simp[togM,togV,nxV,ouV]
     have h1 : ∀n,(sideAt g n).out.length <= 10000 := λn => by have := (Fg.side n).1;omega
     have h2 : ∀n,(sideAt h n).out.length <= 10000 := λn => by have := (Fh.side n).1;omega
     have h3 := Fg.states;have h4 := Fh.states;have hnext : ∀p t,InP (togM g h) (togSz g h) p -> t<g.states*h.states -> Fn Tryz.prog n_hedge_together_next [(togM g h).v,.int .i64 p.1,.int .i64 p.2,.int .i64 t] (.int .i64 ((togM g h).next p.1 p.2 t : Nat)) := λp t hp ht => f_tog_next hg hh (by omega) (by omega) h1 h2 p.1 p.2 t hp.2 ht
     have hout : ∀p,InP (togM g h) (togSz g h) p -> Fn Tryz.prog n_hedge_together_out [(togM g h).v,.int .i64 p.1,.int .i64 p.2] (.int .i64 ((togM g h).out p.1 p.2 : Nat)) := λp hp => f_tog_out hg hh (by omega) (by omega) h1 h2 p.1 p.2 hp.1 hl hp.2
     have hlf : Fn Tryz.prog n_hedge_together_labels [(togM g h).v] (.int .i64 (togM g h).labels) := f_tog_labels g h;obtain⟨f,res,hres⟩ := least_some (togPure g h) hp (togOK hg hh hl) (λn => by have := hsz n;omega) (by rw[hlb];omega) (by omega) hnext hout hlf (by omega) hPT
     have hleast := f_hedge_least (togPure g h) hp (togOK hg hh hl) (λn => by have := hsz n;omega) (by rw[hlb];omega) (by omega) hnext hout hlf (by omega) hPT f res hres
     refine⟨res,.inr ⟨hl,hg,hh,f,hres⟩,?_⟩;rw[(soundB_iff g).2 hg]at hsg;rw[(soundB_iff h).2 hh]at hsh;simp only[togM,togV]at hleast;rw[HedgeP.v_eq]at hsg hsh⊢;rw[HedgeP.v_eq];unfold trsV2 at hleast⊢;simp only[nxV,ouV]at hsg hsh hleast;refine yoA i_hedge_Common ?_;have hl' : (g.labels.length : Int) = h.labels.length := by omega
     simp(disch := omega) [-List.reduceReplicate,nxV,ouV,hl,hl'];refine aa hsg rfl λ_ => ?_
     simp(disch := omega) [-List.reduceReplicate,nxV,ouV];refine aa hsh rfl λ_ => ?_
     simp(disch := omega) [-List.reduceReplicate,nxV,ouV];refine ae hleast (by simp) λ_ => ?_
     simp(disch := omega) [-List.reduceReplicate]
    ·refine⟨none,.inl ⟨λH => hh H.2.2,rfl⟩,?_⟩
     rw[(soundB_iff g).2 hg]at hsg;rw[show soundB h = false by cases hb : soundB h with|false => rfl|true => exact(hh ((soundB_iff h).1 hb)).elim]at hsh
     rw[HedgeP.v_eq]at hsg hsh⊢;rw[HedgeP.v_eq];simp only[nxV,ouV]at hsg hsh;refine yoA i_hedge_Common ?_;have hl' : (g.labels.length : Int) = h.labels.length := by omega
     simp(disch := omega) [-List.reduceReplicate,nxV,ouV,hl,hl'];refine aa hsg rfl λ_ => ?_
     simp(disch := omega) [-List.reduceReplicate,nxV,ouV];refine aa hsh rfl λ_ => ?_
     simp(disch := omega) [-List.reduceReplicate,trsV2]
   ·refine⟨none,.inl ⟨λH => hg H.2.1,rfl⟩,?_⟩
    rw[show soundB g = false by cases hb : soundB g with|false => rfl|true => exact(hg ((soundB_iff g).1 hb)).elim]at hsg
    rw[HedgeP.v_eq]at hsg⊢;rw[HedgeP.v_eq];simp only[nxV,ouV]at hsg;refine yoA i_hedge_Common ?_;have hl' : (g.labels.length : Int) = h.labels.length := by omega
    simp(disch := omega) [-List.reduceReplicate,nxV,ouV,hl,hl'];refine aa hsg rfl λ_ => ?_
    simp(disch := omega) [-List.reduceReplicate,trsV2]
  ·refine⟨none,.inl ⟨λH => hl H.1,rfl⟩,?_⟩
   rw[HedgeP.v_eq,HedgeP.v_eq];refine yoA i_hedge_Common ?_;have hl' : ¬ (g.labels.length : Int) = h.labels.length := by omega
   simp(disch := omega) [-List.reduceReplicate,nxV,ouV,hl,hl',trsV2]
end Go.Abs.F
end
