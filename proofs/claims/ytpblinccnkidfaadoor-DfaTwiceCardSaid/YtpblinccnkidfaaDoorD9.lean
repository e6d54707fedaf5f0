/-
  What a net's functions answer: all that is reached by no sign. No condition.
-/
import Derived.Test.YtpblinccnkidfaaDoorD8
set_option linter.unusedVariables false
set_option linter.unusedSimpArgs false
set_option maxHeartbeats 1000000
set_option maxRecDepth 100000
namespace Go.Abs
open Go.Proofs Go.Aut
attribute [-simp] getElem?_pos Option.not_isSome List.map_map
structure VInv (es : List NEdge) (n q : Nat) (st : List Bool × List Nat) : Prop where
  len : st.1.length = n
  nodup : st.2.Nodup
  mem : ∀ p, st.1[p]? = some true ↔ p ∈ st.2
  lt : ∀ p ∈ st.2, p < n
  reach : ∀ p ∈ st.2, NReach es q p
theorem VInv.visit {es : List NEdge} {n q : Nat} {st : List Bool × List Nat} (h : VInv es n q st) {t : Nat} (ht : t < n) (hr : NReach es q t) : VInv es n q (visit1 st t) := by
  obtain ⟨g1, g2, g3, g4, g5, _, _⟩ := visit_fold (es := es) (q := q) (s := 0) [t] st h.len h.nodup h.mem h.lt h.reach (by simpa using ⟨ht, hr⟩)
  exact ⟨g1, g2, g3, g4, g5⟩
theorem f_nfa_grow {N : Net} (h : N.ok) (hl : N.edges.length ≤ 1000000) (q : Nat) (st0 : List Bool × List Nat) (hG0 : GInv N.edges N.n q 0 st0) :
    FnH Tryd.prog n_nfa_graph_grow [1] [.strct (graphV N.edges (graphP N.edges N.n)), .ref 0 N.n, .ref 1 st0.2.length] [some (.arr ty_bool 1 (st0.1.map V.bool)), some (.arr ty_int 1 (st0.2.map nV))]
      (.ref 1 (growGo N.edges (N.n + 1) 0 st0).2.length) [some (.arr ty_bool 1 ((growGo N.edges (N.n + 1) 0 st0).1.map V.bool)), some (.arr ty_int 1 ((growGo N.edges (N.n + 1) 0 st0).2.map nV))] := by
  refine FnH.of_image mixed h_nfa_graph_grow i_nfa_graph_grow rfl fun ho hh => ?_
  unfold c_nfa_graph_grow
  clear ho hh
  have h2 := h.le
  have hfr : ∀ e ∈ N.edges, e.fr < N.n := fun e he => (h.ends e he).1
  have hto : ∀ e ∈ N.edges, e.to < N.n := fun e he => (h.ends e he).2.1
  have hgl1 : (graphP N.edges N.n).1.length = N.n := by simpa [graphP] using (graphGo_len N.edges 0 (List.replicate N.n 0) (List.replicate N.edges.length 0)).1
  have hgl2 : (graphP N.edges N.n).2.length = N.edges.length := by simpa [graphP] using (graphGo_len N.edges 0 (List.replicate N.n 0) (List.replicate N.edges.length 0)).2
  obtain ⟨R, hR⟩ : ∃ R, R = growGo N.edges (N.n + 1) 0 st0 := ⟨_, rfl⟩
  rw [← hR]
  have hRG : GInv N.edges N.n q R.2.length R := by rw [hR]; exact growGo_inv hto _ _ _ hG0 (by omega)
  have hRl : R.1.length = N.n := hRG.len
  simp (disch := omega) [-List.reduceReplicate]
  refine W_scope (fun (x : Nat × Nat × List Bool × List Nat) => ⟨[(1, .ref 0 N.n), (2, .ref 1 x.2.2.2.length), (3, .ptr 2 0), (7, nV x.2.1)], [some (.arr ty_bool 1 (x.2.2.1.map V.bool)), some (.arr ty_int 1 (x.2.2.2.map nV)), some (.box (graphV N.edges (graphP N.edges N.n)))]⟩)
    (fun x => GInv N.edges N.n q x.2.1 x.2.2 ∧ growGo N.edges x.1 x.2.1 x.2.2 = R ∧ N.n < x.1 + x.2.1) (fun x => x.1) ?_ ?_
  · intro M hM
    have hG := hG0
    have hlen := hG0.len
    have hrch : ∀ s, st0.2[0]? = some s → ∀ j ∈ outsI N.edges s N.edges.length, j < N.edges.length ∧ NReach N.edges q (toE N.edges j) := fun s hs j hj => by
      obtain ⟨h1, e, h2, h3, h4⟩ := mem_outsI.1 hj
      refine ⟨h1, ?_⟩
      simp only [toE, h2]
      exact .step (hG0.reach s (List.mem_of_getElem? hs)) (List.mem_of_getElem? h2) h3 h4
    have dn : st0.2[0]? = none → st0 = R := fun h => by rw [hR]; simp [growGo, h]
    have nx : ∀ s, st0.2[0]? = some s → ∀ st' : List Bool × List Nat, st' = (outs N.edges s).foldl visit1 st0 → ∀ τ : St, τ.nrm [1, 2, 3, 7] = ⟨[(1, .ref 0 N.n), (2, .ref 1 st'.2.length), (3, .ptr 2 0), (7, .int .i64 1)], [some (.arr ty_bool 1 (st'.1.map V.bool)), some (.arr ty_int 1 (st'.2.map nV)), some (.box (graphV N.edges (graphP N.edges N.n)))]⟩ → M τ := by
      intro s hs st' he τ hτ
      subst he
      refine hM.out (N.n, 1, _) τ ⟨hG0.next hto hs, by rw [hR]; simp [growGo, hs], by simp only; omega⟩ (by simpa using hτ)
    simp (disch := omega) [-List.reduceReplicate]

    cases hs : st0.2[0]? with
    | none =>
      have hge := List.getElem?_eq_none_iff.1 hs
      have hdn := dn hs
      simp (disch := omega) [-List.reduceReplicate, hs] <;> simp [hdn]
    | some s =>
      have hil := (List.getElem?_eq_some_iff.1 hs).1
      have hsn := hG.lt s (List.mem_of_getElem? hs)
      obtain ⟨a, ha, hch⟩ := graphP_chain hfr hsn
      have hnx := nx s hs
      simp (disch := omega) [-List.reduceReplicate, hs, ha, hlen, hgl1, hgl2]
      refine W_loop (fun (x : Nat × List Nat × List Bool × List Nat) => ⟨[(1, .ref 0 N.n), (2, .ref 1 x.2.2.2.length), (3, .ptr 2 0), (7, .int .i64 0), (8, nV x.1)], [some (.arr ty_bool 1 (x.2.2.1.map V.bool)), some (.arr ty_int 1 (x.2.2.2.map nV)), some (.box (graphV N.edges (graphP N.edges N.n)))]⟩)
        (fun x => Chain (graphP N.edges N.n).2 x.1 x.2.1 ∧ VInv N.edges N.n q x.2.2 ∧ (∀ j ∈ x.2.1, j < N.edges.length ∧ NReach N.edges q (toE N.edges j)) ∧ (x.2.1.map (toE N.edges)).foldl visit1 x.2.2 = (outs N.edges s).foldl visit1 st0) (fun x => x.2.1.length) [] _ (a, outsI N.edges s N.edges.length, st0) rfl (by simp []) ⟨hch, ⟨hG.len, hG.nodup, hG.mem, hG.lt, hG.reach⟩, hrch s hs, rfl⟩ ?_
      rintro ⟨at', l, st'⟩ ⟨hc, hv, hj, hfold⟩ M hM
      simp only at hc hv hj hfold
      cases l with
      | nil =>
        have : at' = 0 := hc
        subst this
        simp only [List.map_nil, List.foldl_nil] at hfold
        simp (disch := omega) [-List.reduceReplicate]
        exact hnx st' hfold _ (by simp [])
      | cons j l =>
        obtain ⟨rfl, b, hb, hc'⟩ := hc
        obtain ⟨hjl, hjr⟩ := hj j (by simp)
        obtain ⟨e, he⟩ := get_lt hjl
        have hte : toE N.edges j = e.to := by simp [toE, he]
        have het := (h.ends e (List.mem_of_getElem? he)).2.1
        obtain ⟨ib, hib⟩ := get_lt (l := st'.1) (k := e.to) (by rw [hv.len]; exact het)
        simp only [List.map_cons, List.foldl_cons, hte] at hfold
        rw [hte] at hjr
        have hv2 := hv.visit het hjr
        have hsl := nodup_le N.n st'.2 hv.nodup hv.lt
        have hvl := hv.len
        simp (disch := omega) [-List.reduceReplicate, he, hib, hvl, hb]
        cases ib with
        | true =>
          have hv1 : visit1 st' e.to = st' := by simp [visit1, hib]
          rw [hv1] at hfold
          simp (disch := omega) [-List.reduceReplicate, hb, hgl2]
          exact hM.out _ <| Nx.mk (b, l, st') (by simp) ⟨hc', hv, fun j hj' => hj j (by simp [hj']), hfold⟩ (by simp)
        | false =>
          have hv1 : visit1 st' e.to = (st'.1.set e.to true, st'.2 ++ [e.to]) := by simp [visit1, hib]
          rw [hv1] at hfold hv2
          simp (disch := omega) [-List.reduceReplicate, hib, hvl, hb, hgl2]
          exact hM.out _ <| Nx.mk (b, l, st'.1.set e.to true, st'.2 ++ [e.to]) (by simp) ⟨hc', hv2, fun j hj' => hj j (by simp [hj']), hfold⟩ (by simp)
  · rintro ⟨f, i, st⟩ ⟨hG, hgo, hfi⟩ M hM
    simp only at hG hgo hfi
    have hlen := hG.len
    have hile := hG.le
    have hsle := nodup_le N.n st.2 hG.nodup hG.lt
    cases f with
    | zero => omega
    | succ f =>
    have hrch : ∀ s, st.2[i]? = some s → ∀ j ∈ outsI N.edges s N.edges.length, j < N.edges.length ∧ NReach N.edges q (toE N.edges j) := fun s hs j hj => by
      obtain ⟨h1, e, h2, h3, h4⟩ := mem_outsI.1 hj
      refine ⟨h1, ?_⟩
      simp only [toE, h2]
      exact .step (hG.reach s (List.mem_of_getElem? hs)) (List.mem_of_getElem? h2) h3 h4
    have dn : st.2[i]? = none → st = R := fun h => by rw [← hgo]; simp [growGo, h]
    have nx : ∀ s, st.2[i]? = some s → ∀ st' : List Bool × List Nat, st' = (outs N.edges s).foldl visit1 st → ∀ τ : St, τ.nrm [1, 2, 3, 7] = ⟨[(1, .ref 0 N.n), (2, .ref 1 st'.2.length), (3, .ptr 2 0), (7, .int .i64 ((i : Int) + 1))], [some (.arr ty_bool 1 (st'.1.map V.bool)), some (.arr ty_int 1 (st'.2.map nV)), some (.box (graphV N.edges (graphP N.edges N.n)))]⟩ → M τ := by
      intro s hs st' he τ hτ
      subst he
      refine hM.out τ <| Nx.mk (f, i + 1, _) (by simpa using hτ) ⟨hG.next hto hs, by rw [← hgo]; simp [growGo, hs], by simp only; omega⟩ (by simp only; omega)
    simp (disch := omega) [-List.reduceReplicate]

    cases hs : st.2[i]? with
    | none =>
      have hge := List.getElem?_eq_none_iff.1 hs
      have hdn := dn hs
      simp (disch := omega) [-List.reduceReplicate, hs] <;> simp [hdn]
    | some s =>
      have hil := (List.getElem?_eq_some_iff.1 hs).1
      have hsn := hG.lt s (List.mem_of_getElem? hs)
      obtain ⟨a, ha, hch⟩ := graphP_chain hfr hsn
      have hnx := nx s hs
      simp (disch := omega) [-List.reduceReplicate, hs, ha, hlen, hgl1, hgl2]
      refine W_loop (fun (x : Nat × List Nat × List Bool × List Nat) => ⟨[(1, .ref 0 N.n), (2, .ref 1 x.2.2.2.length), (3, .ptr 2 0), (7, nV i), (8, nV x.1)], [some (.arr ty_bool 1 (x.2.2.1.map V.bool)), some (.arr ty_int 1 (x.2.2.2.map nV)), some (.box (graphV N.edges (graphP N.edges N.n)))]⟩)
        (fun x => Chain (graphP N.edges N.n).2 x.1 x.2.1 ∧ VInv N.edges N.n q x.2.2 ∧ (∀ j ∈ x.2.1, j < N.edges.length ∧ NReach N.edges q (toE N.edges j)) ∧ (x.2.1.map (toE N.edges)).foldl visit1 x.2.2 = (outs N.edges s).foldl visit1 st) (fun x => x.2.1.length) [] _ (a, outsI N.edges s N.edges.length, st) rfl (by simp []) ⟨hch, ⟨hG.len, hG.nodup, hG.mem, hG.lt, hG.reach⟩, hrch s hs, rfl⟩ ?_
      rintro ⟨at', l, st'⟩ ⟨hc, hv, hj, hfold⟩ M hM
      simp only at hc hv hj hfold
      cases l with
      | nil =>
        have : at' = 0 := hc
        subst this
        simp only [List.map_nil, List.foldl_nil] at hfold
        simp (disch := omega) [-List.reduceReplicate]
        exact hnx st' hfold _ (by simp [])
      | cons j l =>
        obtain ⟨rfl, b, hb, hc'⟩ := hc
        obtain ⟨hjl, hjr⟩ := hj j (by simp)
        obtain ⟨e, he⟩ := get_lt hjl
        have hte : toE N.edges j = e.to := by simp [toE, he]
        have het := (h.ends e (List.mem_of_getElem? he)).2.1
        obtain ⟨ib, hib⟩ := get_lt (l := st'.1) (k := e.to) (by rw [hv.len]; exact het)
        simp only [List.map_cons, List.foldl_cons, hte] at hfold
        rw [hte] at hjr
        have hv2 := hv.visit het hjr
        have hsl := nodup_le N.n st'.2 hv.nodup hv.lt
        have hvl := hv.len
        simp (disch := omega) [-List.reduceReplicate, he, hib, hvl, hb]
        cases ib with
        | true =>
          have hv1 : visit1 st' e.to = st' := by simp [visit1, hib]
          rw [hv1] at hfold
          simp (disch := omega) [-List.reduceReplicate, hb, hgl2]
          exact hM.out _ <| Nx.mk (b, l, st') (by simp) ⟨hc', hv, fun j hj' => hj j (by simp [hj']), hfold⟩ (by simp)
        | false =>
          have hv1 : visit1 st' e.to = (st'.1.set e.to true, st'.2 ++ [e.to]) := by simp [visit1, hib]
          rw [hv1] at hfold hv2
          simp (disch := omega) [-List.reduceReplicate, hib, hvl, hb, hgl2]
          exact hM.out _ <| Nx.mk (b, l, st'.1.set e.to true, st'.2 ++ [e.to]) (by simp) ⟨hc', hv2, fun j hj' => hj j (by simp [hj']), hfold⟩ (by simp)
end Go.Abs
