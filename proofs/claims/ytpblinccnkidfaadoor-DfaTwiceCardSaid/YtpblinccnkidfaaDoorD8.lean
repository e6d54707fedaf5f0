/-
  What a net's functions answer: whether it may be, and what is reached by no sign. No condition.
-/
import Derived.Test.YtpblinccnkidfaaDoorD7
import Derived.Test.YtpblinccnkidfaaDoorTh3
set_option linter.unusedVariables false
set_option linter.unusedSimpArgs false
set_option maxHeartbeats 1000000
set_option maxRecDepth 100000
namespace Go.Abs
open Go.Proofs Go.Aut
attribute [-simp] getElem?_pos Option.not_isSome List.map_map
theorem W_scope {Φ : Ctr} {Q : Ex → St → Prop} {σ : St} {l : Nat} {ks : List Nat} {a b : AC} {ι : Type} (st : ι → St) (inv : ι → Prop) (μ : ι → Nat)
    (h0 : ∀ N : St → Prop, Kept (∀ i τ, inv i → τ.nrm ks = st i → N τ) → W Φ a (Ex.jump l N Q) σ)
    (round : ∀ i, inv i → ∀ N : St → Prop, Kept (∀ τ, Nx st inv μ ks (μ i) τ → N τ) → W Φ b (Ex.jump l N Q) (st i)) : W Φ (.scope l ks a b) Q σ := by
  refine ⟨fun n τ => ∃ i, inv i ∧ μ i = n ∧ τ = st i, h0 _ fun i τ hi hτ => ⟨μ i, [], τ, rfl, i, hi, rfl, hτ⟩, ?_⟩
  rintro n τ ⟨i, hi, rfl, rfl⟩
  refine round i hi _ ?_
  rintro τ ⟨ms, τ', j, h1, h2, h3, h4⟩
  exact ⟨μ j, ms, τ', h1, ⟨j, h3, rfl, h2⟩, h4⟩
theorem wboth_one {Φ : Ctr} {σ : St} {ks : List Nat} {a b : OT} {Q : Ex → St → Prop} (S : St) (h : ∀ Q : Ex → St → Prop, Q .norm S → wbothK Φ a b (nrmK Q ks) σ) (k : Q .norm S) : wbothK Φ a b (nrmK Q ks) σ := h Q k
def u8V (n : Nat) : V := .int .u8 n
attribute [simp] u8V
def NEdge.c (e : NEdge) : List V := [nV e.fr, nV e.to, u8V e.low, u8V e.high]
@[simp] def NEdge.v (e : NEdge) : V := .strct [nV e.fr, nV e.to, u8V e.low, u8V e.high]
def edgesV (es : List NEdge) : V := .seq 4 (es.map NEdge.v)
def Net.c (N : Net) : List V := [nV N.n, nV N.start, nV N.stop, edgesV N.edges]
attribute [simp] Net.c edgesV
theorem f_nfa_isState (N : Net) (q : Nat) : Fn Tryd.prog n_nfa_isState [.strct (Net.c N), nV q] (.bool (decide (q < N.n))) := by
  refine Fn.of_image mixed h_nfa_isState i_nfa_isState rfl fun ho => ?_
  unfold c_nfa_isState
  simp only [oks, ok, and_true] at ho
  clear ho
  simp (disch := omega) [-List.reduceReplicate]
theorem f_nfa_none (e : NEdge) : Fn Tryd.prog n_nfa_none [NEdge.v e] (.bool e.free) := by
  refine Fn.of_image mixed h_nfa_none i_nfa_none rfl fun ho => ?_
  unfold c_nfa_none
  simp only [oks, ok, and_true] at ho
  clear ho
  simp (disch := omega) [-List.reduceReplicate, NEdge.free]
theorem f_nfa_May {N : Net} (h : N.ok) (hl : N.edges.length ≤ 1000000) : Fn Tryd.prog n_nfa_May [.strct (Net.c N)] (.int .i64 0) := by
  refine Fn.of_image mixed h_nfa_May i_nfa_May rfl fun ho => ?_
  unfold c_nfa_May
  simp only [oks, ok, and_true] at ho
  clear ho
  have h1 := h.pos
  have h2 := h.le
  have h3 := h.start
  have h4 := h.stop
  have st := fun q (hq : q < N.n) => (by have := f_nfa_isState N q; rwa [decide_eq_true hq] at this : Fn Tryd.prog n_nfa_isState [.strct (Net.c N), nV q] (.bool true))
  have hs := st N.start h3
  have hp := st N.stop h4
  simp at hs hp
  simp (disch := omega) [-List.reduceReplicate]
  refine wcall_flat hs rfl fun _ => ?_
  simp (disch := omega) [-List.reduceReplicate]
  refine wcall_flat hp rfl fun _ => ?_
  simp (disch := omega) [-List.reduceReplicate]
  refine W_loop (fun k : Nat => ⟨[(1, .ptr 0 0), (28, edgesV N.edges), (29, .int .i64 N.edges.length), (30, nV k)], [some (.box (Net.c N))]⟩) (fun k => k ≤ N.edges.length) (fun k => N.edges.length - k) [] _ 0 rfl (by simp) (by simp) ?_
  intro k hk M hM
  rcases place N.edges k hk with ⟨he, hd⟩ | ⟨hlt, e, hx, hd⟩
  · simp (disch := omega) [-List.reduceReplicate, he]
  · obtain ⟨g1, g2, g3, g4⟩ := h.ends e (List.mem_of_getElem? hx)
    have hf := st e.fr g1
    have ht := st e.to g2
    simp at hf ht
    simp (disch := omega) [-List.reduceReplicate, hx]
    refine wcall_flat hf rfl fun _ => ?_
    simp (disch := omega) [-List.reduceReplicate]
    refine wcall_flat ht rfl fun _ => ?_
    simp (disch := omega) [-List.reduceReplicate]
    exact hM.out _ <| Nx.mk (k + 1) (by simp) (by omega) (by omega)
/-! ### Edges that are gone by, as they lie -/
def graphGo : List NEdge → Nat → List Nat → List Nat → List Nat × List Nat
  | [], _, hd, lk => (hd, lk)
  | e :: es, i, hd, lk => if e.free = true then graphGo es (i + 1) (hd.set e.fr (i + 1)) (lk.set i ((hd[e.fr]?).getD 0)) else graphGo es (i + 1) hd lk
def graphP (es : List NEdge) (n : Nat) : List Nat × List Nat := graphGo es 0 (List.replicate n 0) (List.replicate es.length 0)
/-- The numbers that follow one another in links. -/
def Chain (lk : List Nat) : Nat → List Nat → Prop
  | a, [] => a = 0
  | a, j :: l => a = j + 1 ∧ ∃ b, lk[j]? = some b ∧ Chain lk b l
theorem Chain.set {lk : List Nat} {i v : Nat} : ∀ {l : List Nat} {a : Nat}, (∀ j ∈ l, j ≠ i) → Chain lk a l → Chain (lk.set i v) a l
  | [], _, _, h => h
  | j :: l, a, hj, ⟨h1, b, h2, h3⟩ => ⟨h1, b, by rw [List.getElem?_set_ne (fun e => hj j (by simp) e.symm)]; exact h2, Chain.set (fun j' hj' => hj j' (by simp [hj'])) h3⟩
theorem outsI_succ {es : List NEdge} {s k : Nat} {e : NEdge} (he : es[k]? = some e) : outsI es s (k + 1) = if e.free = true ∧ e.fr = s then k :: outsI es s k else outsI es s k := by simp only [outsI, he]
theorem graphGo_len : ∀ (es : List NEdge) (i : Nat) (hd lk : List Nat), (graphGo es i hd lk).1.length = hd.length ∧ (graphGo es i hd lk).2.length = lk.length
  | [], _, _, _ => ⟨rfl, rfl⟩
  | e :: es, i, hd, lk => by
    simp only [graphGo]
    split
    · have := graphGo_len es (i + 1) (hd.set e.fr (i + 1)) (lk.set i ((hd[e.fr]?).getD 0)); simpa using this
    · exact graphGo_len es (i + 1) hd lk
theorem graphGo_chain {all : List NEdge} {n : Nat} (hall : ∀ e ∈ all, e.fr < n) : ∀ (es : List NEdge) (i : Nat) (hd lk : List Nat), all.drop i = es → hd.length = n → lk.length = all.length →
    (∀ s < n, ∃ a, hd[s]? = some a ∧ Chain lk a (outsI all s i)) → ∀ s < n, ∃ a, (graphGo es i hd lk).1[s]? = some a ∧ Chain (graphGo es i hd lk).2 a (outsI all s all.length)
  | [], i, hd, lk, hdr, h1, h2, h, s, hs => by
    have hi : all.length ≤ i := by have := congrArg List.length hdr; simp at this; omega
    simp only [graphGo]
    obtain ⟨a, ha, hc⟩ := h s hs
    refine ⟨a, ha, ?_⟩
    have key : ∀ k, all.length ≤ k → outsI all s k = outsI all s all.length := by
      intro k hk
      induction k with
      | zero => have : all.length = 0 := by omega
                rw [this]
      | succ k ih =>
        rcases Nat.lt_or_ge k all.length with hlt | hge
        · have : all.length = k + 1 := by omega
          rw [this]
        · rw [← ih hge]
          simp only [outsI, List.getElem?_eq_none hge]
    rwa [key i hi] at hc
  | e :: es, i, hd, lk, hdr, h1, h2, h, s, hs => by
    have hi : i < all.length := by
      rcases Nat.lt_or_ge i all.length with hlt | hge
      · exact hlt
      · rw [List.drop_of_length_le hge] at hdr; cases hdr
    have he : all[i]? = some e := by
      have := List.drop_eq_getElem_cons hi
      rw [this] at hdr
      injection hdr with e1 e2
      rw [List.getElem?_eq_getElem hi, e1]
    have hdr' : all.drop (i + 1) = es := by
      rw [List.drop_eq_getElem_cons hi] at hdr
      injection hdr
    have hef := hall e (List.mem_of_getElem? he)
    simp only [graphGo]
    split
    · rename_i hf
      refine graphGo_chain hall es (i + 1) _ _ hdr' (by simpa using h1) (by simpa using h2) (fun s' hs' => ?_) s hs
      obtain ⟨a, ha, hc⟩ := h s' hs'
      have hne : ∀ j ∈ outsI all s' i, j ≠ i := fun j hj => by have := (mem_outsI.1 hj).1; omega
      rw [outsI_succ he]
      by_cases hse : e.fr = s'
      · subst hse
        rw [if_pos ⟨hf, rfl⟩]
        refine ⟨i + 1, by rw [List.getElem?_set_self (by omega)], rfl, a, ?_, hc.set hne⟩
        rw [List.getElem?_set_self (by omega), ha]; rfl
      · rw [if_neg (fun h => hse h.2)]
        exact ⟨a, by rw [List.getElem?_set_ne hse]; exact ha, hc.set hne⟩
    · rename_i hf
      refine graphGo_chain hall es (i + 1) hd lk hdr' h1 h2 (fun s' hs' => ?_) s hs
      rw [outsI_succ he, if_neg (fun h => hf h.1)]
      exact h s' hs'
theorem graphP_chain {es : List NEdge} {n : Nat} (h : ∀ e ∈ es, e.fr < n) {s : Nat} (hs : s < n) : ∃ a, (graphP es n).1[s]? = some a ∧ Chain (graphP es n).2 a (outsI es s es.length) :=
  graphGo_chain h es 0 _ _ (by simp) (by simp) (by simp) (fun s hs => ⟨0, by simp [hs], rfl⟩) s hs
def graphV (es : List NEdge) (g : List Nat × List Nat) : List V := [edgesV es, rowN g.1, rowN g.2]
attribute [simp] graphV
theorem f_nfa_graphOf {N : Net} (h : N.ok) (hl : N.edges.length ≤ 1000000) : Fn Tryd.prog n_nfa_graphOf [.strct (Net.c N), .fn (.func n_nfa_none) [] []] (.strct (graphV N.edges (graphP N.edges N.n))) := by
  refine Fn.of_image mixed h_nfa_graphOf i_nfa_graphOf rfl fun ho => ?_
  unfold c_nfa_graphOf
  simp only [oks, ok, and_true] at ho
  clear ho
  have h2 := h.le
  obtain ⟨R, hR⟩ : ∃ R, R = graphP N.edges N.n := ⟨_, rfl⟩
  have hfr : ∀ e ∈ N.edges, e.fr < N.n := fun e he => (h.ends e he).1
  simp (disch := omega) [-List.reduceReplicate]
  refine wboth_one ⟨[(1, .fn (.func n_nfa_none) [] []), (2, .ptr 0 0), (4, .ptr 1 0), (5, .ptr 2 0)], [some (.box (Net.c N)), some (.box [.nil 4, .nil 1, .nil 1]), some (.box [edgesV N.edges, .ref 3 N.n, .ref 4 N.edges.length]), some (.arr ty_int 1 (List.replicate N.n (nV 0))), some (.arr ty_int 1 (List.replicate N.edges.length (nV 0)))]⟩ (fun F hF => ?_) ?_
  · simp at hF
    refine wbothK.mk ?_ ?_
    all_goals simp (disch := omega) [-List.reduceReplicate]
    all_goals try refine wbothK.mk ?_ ?_
    all_goals simp (disch := omega) [-List.reduceReplicate]
    all_goals try refine wbothK.mk ?_ ?_
    all_goals try simp (disch := omega) [-List.reduceReplicate]
    all_goals exact hF
  simp (disch := omega) [-List.reduceReplicate]
  refine W_loop (fun (x : Nat × List Nat × List Nat) => ⟨[(1, .fn (.func n_nfa_none) [] []), (4, .ptr 0 0), (5, .ptr 1 0), (19, edgesV N.edges), (20, .int .i64 N.edges.length), (21, nV x.1)], [some (.box [.nil 4, .nil 1, .nil 1]), some (.box [edgesV N.edges, .ref 2 N.n, .ref 3 N.edges.length]), some (.arr ty_int 1 (x.2.1.map nV)), some (.arr ty_int 1 (x.2.2.map nV))]⟩)
    (fun x => x.1 ≤ N.edges.length ∧ x.2.1.length = N.n ∧ x.2.2.length = N.edges.length ∧ graphGo (N.edges.drop x.1) x.1 x.2.1 x.2.2 = R) (fun x => N.edges.length - x.1) [] _ (0, List.replicate N.n 0, List.replicate N.edges.length 0) rfl (by simp [-List.reduceReplicate]) ⟨by simp, by simp, by simp, by simp [hR, graphP]⟩ ?_
  rintro ⟨k, hd, lk⟩ ⟨hk, hhl, hll, hi⟩ M hM
  simp only at hk hhl hll hi
  rcases place N.edges k hk with ⟨he, hdr⟩ | ⟨hlt, e, hx, hdr⟩ <;> rw [hdr] at hi
  · simp only [graphGo] at hi
    subst hi
    simp (disch := omega) [-List.reduceReplicate, he, hhl, hll]
    simp [← hR]
  · have hef := hfr e (List.mem_of_getElem? hx)
    obtain ⟨b, hb⟩ := get_lt (l := hd) (k := e.fr) (by omega)
    obtain ⟨c, hc⟩ := get_lt (l := lk) (k := k) (by omega)
    simp only [graphGo, hb, Option.getD_some] at hi
    have hno := f_nfa_none e
    simp at hno
    replace hi := hid hi
    simp (disch := omega) [-List.reduceReplicate, hx]
    refine wcall_flat hno rfl fun _ => ?_
    cases hf : e.free
    · simp (disch := omega) [-List.reduceReplicate]
      have hi := hi.out
      rw [if_neg (by simp [hf])] at hi
      exact hM.out _ <| Nx.mk (k + 1, hd, lk) (by simp) ⟨by simp only; omega, hhl, hll, hi⟩ (by simp only; omega)
    · simp (disch := omega) [-List.reduceReplicate, hhl, hll, hb, hc]
      have hi := hi.out
      rw [if_pos hf] at hi
      exact hM.out _ <| Nx.mk (k + 1, hd.set e.fr (k + 1), lk.set k b) (by simp) ⟨by simp only; omega, by simp [hhl], by simp [hll], hi⟩ (by simp only; omega)
theorem f_nfa_states (l : List Bool) (hl : l.length ≤ 1000000) : FnN Tryd.prog n_nfa_states [.seq 1 (l.map .bool)] (rowN (statesL 0 l)) := by
  refine FnN.of_image mixed h_nfa_states i_nfa_states rfl fun ho => ?_
  unfold c_nfa_states
  clear ho
  obtain ⟨R, hR⟩ : ∃ R, R = statesL 0 l := ⟨_, rfl⟩
  rw [← hR]
  simp (disch := omega) [-List.reduceReplicate]
  refine W_loop (fun (x : Nat × List Nat) => ⟨[(3, .ref 0 x.2.length), (6, .seq 1 (l.map .bool)), (7, .int .i64 l.length), (8, nV x.1)], [some (.arr ty_int 1 (x.2.map nV))]⟩)
    (fun x => x.1 ≤ l.length ∧ x.2.length ≤ x.1 ∧ x.2 ++ statesL x.1 (l.drop x.1) = R) (fun x => l.length - x.1) [.r 3 ty_int 1] _ (0, []) rfl (by simp) ⟨by simp, by simp, by simp [hR]⟩ ?_
  rintro ⟨k, out⟩ ⟨hk, hol, hi⟩ N hN
  simp only at hk hol hi
  rcases place l k hk with ⟨he, hd⟩ | ⟨hlt, b, hx, hd⟩ <;> rw [hd] at hi
  · simp only [statesL, List.append_nil] at hi
    subst hi
    simp (disch := omega) [-List.reduceReplicate, he]
    exact flats_map (fun _ => rfl) out
  · simp only [statesL] at hi
    replace hi := hid hi
    simp (disch := omega) [-List.reduceReplicate, hx]
    refine BrK.mk (fun h => ?_) (fun h => ?_)
    · subst h
      simp (disch := omega) [-List.reduceReplicate]
      exact hN.out _ <| Nx.mk (k + 1, out ++ [k]) (by simp) ⟨by simp only; omega, by simp; omega, by simpa using hi.out⟩ (by simp only; omega)
    · subst h
      simp (disch := omega) [-List.reduceReplicate]
      exact hN.out _ <| Nx.mk (k + 1, out) (by simp) ⟨by simp only; omega, by simp only; omega, by simpa using hi.out⟩ (by simp only; omega)
end Go.Abs
