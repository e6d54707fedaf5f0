/-
  What a net's functions answer: the states that are reached from one by no sign; sets of states. No condition.
-/
import Derived.Test.YtpblinccnkidfaaDoorD9
set_option linter.unusedVariables false
set_option linter.unusedSimpArgs false
set_option maxHeartbeats 1000000
set_option maxRecDepth 100000
namespace Go.Abs
open Go.Proofs Go.Aut
attribute [-simp] getElem?_pos Option.not_isSome List.map_map
theorem f_nfa_reached {N : Net} (h : N.ok) (hl : N.edges.length ≤ 1000000) {q : Nat} (hq : q < N.n) : Fn Tryd.prog n_nfa_reached [.strct (Net.c N), .seq 1 [nV q], .fn (.func n_nfa_none) [] []] (.seq 1 ((closedB N.edges N.n q).map .bool)) := by
  refine Fn.of_imageE mixed h_nfa_reached i_nfa_reached rfl fun ho => ?_
  unfold c_nfa_reached
  simp only [oks, ok, and_true] at ho
  clear ho
  have h2 := h.le
  have hto : ∀ e ∈ N.edges, e.to < N.n := fun e he => (h.ends e he).2.1
  obtain ⟨R, hR⟩ : ∃ R, R = closedB N.edges N.n q := ⟨_, rfl⟩
  rw [← hR]
  have hst := f_nfa_isState N q
  rw [decide_eq_true hq] at hst
  simp at hst
  simp (disch := omega) [-List.reduceReplicate]
  refine W_loop (fun (k : Nat) => ⟨[(2, .fn (.func n_nfa_none) [] []), (3, .ptr 0 0), (7, .ref 1 N.n), (8, .ref 2 k), (14, .seq 1 [nV q]), (15, .int .i64 1), (16, nV k)],
      [some (.box (Net.c N)), some (.arr ty_bool 1 ((if k = 0 then List.replicate N.n false else (List.replicate N.n false).set q true).map V.bool)), some (.arr ty_int 1 ((if k = 0 then [] else [q]).map nV))]⟩) (fun k => k ≤ 1) (fun k => 1 - k) [.r 8 ty_int 1] _ 0 rfl (by simp [-List.reduceReplicate]) (by simp) ?_
  intro k hk M hM
  rcases (show k = 0 ∨ k = 1 by omega) with rfl | rfl
  · simp (disch := omega) [-List.reduceReplicate]
    refine wcall_flat hst rfl fun _ => ?_
    simp (disch := omega) [-List.reduceReplicate, hq]
    exact hM.out _ <| Nx.mk 1 (by simp [-List.reduceReplicate]) (by simp) (by simp)
  · simp (disch := omega) [-List.reduceReplicate]
    refine wcall_pure (by simpa using f_nfa_graphOf h hl) (by simp) fun _ => ?_
    simp (disch := omega) [-List.reduceReplicate]
    have hg := f_nfa_grow h hl q ((List.replicate N.n false).set q true, [q]) (ginv_start hq)
    have hRG : growGo N.edges (N.n + 1) 0 ((List.replicate N.n false).set q true, [q]) = (R, (growGo N.edges (N.n + 1) 0 ((List.replicate N.n false).set q true, [q])).2) := by rw [hR]; rfl
    rw [hRG] at hg
    have hRl : R.length = N.n := by rw [hR]; exact (closedB_spec hto hq).1
    refine wcallH_mk [1] 1 [1, 2] (by simp) (by simp) (by simp) (by simp) hg (by simp) fun _ _ => ?_
    simp (disch := omega) [-List.reduceReplicate, hRl]
theorem f_nfa_Closed {N : Net} (h : N.ok) (hl : N.edges.length ≤ 1000000) {q : Nat} (hq : q < N.n) : Fn Tryd.prog n_nfa_Closed [.strct (Net.c N), .seq 1 [nV q]] (rowN (closedL N.edges N.n q)) := by
  refine Fn.of_image mixed h_nfa_Closed i_nfa_Closed rfl fun ho => ?_
  unfold c_nfa_Closed
  simp only [oks, ok, and_true] at ho
  clear ho
  have h2 := h.le
  have hto : ∀ e ∈ N.edges, e.to < N.n := fun e he => (h.ends e he).2.1
  have hm := f_nfa_May h hl
  simp at hm
  have hr := f_nfa_reached h hl hq
  simp at hr
  have hcl := (closedB_spec hto hq).1
  simp (disch := omega) [-List.reduceReplicate]
  refine wcall_flat hm rfl fun _ => ?_
  simp (disch := omega) [-List.reduceReplicate]
  refine wcall_pure hr (by simp) fun _ => ?_
  simp (disch := omega) [-List.reduceReplicate]
  refine wcall_new (f_nfa_states _ (by omega)) fun _ => ?_
  simp (disch := omega) [-List.reduceReplicate, closedL]
end Go.Abs
