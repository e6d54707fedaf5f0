/-
  A net's automaton. No condition.
-/
import Derived.Test.YtpblinccnkidfaaDoorTh5
set_option linter.unusedVariables false
set_option linter.unusedSimpArgs false
set_option maxHeartbeats 1000000
set_option maxRecDepth 100000
namespace Go.Abs
open Go.Proofs Go.Aut
attribute [-simp] getElem?_pos Option.not_isSome List.map_map
theorem walkGo_le {K : Type} {e : K → K → Bool} {step : K → Nat → K} {most : Nat} : ∀ (f i : Nat) (l : List K) (rows : List (List Nat)) (r : List K × List (List Nat)), l.length ≤ most + 1 → walkGo e step most f i l rows = some r → r.1.length ≤ most + 1
  | 0, _, _, _, _, _, h => by simp [walkGo] at h
  | f + 1, i, l, rows, r, hl, h => by
    simp only [walkGo] at h
    split at h
    · cases h; exact hl
    · split at h
      · cases h
      · exact walkGo_le f _ _ _ _ (by omega) h
def ofP (N : Net) : Option Aut := match walkP eqB (stepS (stepsP N)) (closedS N N.start) 500 with
  | none => none
  | some (list, rows) => formP rows (list.map fun s => hasW s N.stop)
theorem f_dfa_Of {N : Net} (h : N.ok) (hl : N.edges.length ≤ 1000000) {b : Aut} (hb : ofP N = some b) : Fn Tryd.prog n_dfa_Of [.strct (Net.c N)] (.tup [.strct (Aut.c b), .int .i64 0]) := by
  refine Fn.of_imageE mixed h_dfa_Of i_dfa_Of rfl fun ho => ?_
  unfold c_dfa_Of
  simp only [oks, ok, and_true] at ho
  clear ho
  have hle := h.le
  unfold ofP at hb
  split at hb
  · cases hb
  rename_i list rows hw
  obtain ⟨hT1, hT2⟩ := stepsP_spec h
  obtain ⟨hB1, hB2, hB3⟩ := bordersP_spec N
  obtain ⟨t, htd⟩ : ∃ t, t = stepsP N := ⟨_, rfl⟩
  obtain ⟨bd, hbd⟩ : ∃ bd, bd = bordersP N := ⟨_, rfl⟩
  have hsame := fun c hc hb q => setAt_same h (c := c) hc hb q
  rw [← htd] at hT1 hT2 hw hsame
  rw [← hbd] at hB1 hB2 hB3 hsame
  have htl := hT1.len
  have htok : stepsOK t := ⟨by omega, hT1.rows⟩
  have hin : ∀ q c, c < 95 → ∀ p < 512, hasW (setAt t c q) p = true → p < t.length := fun q c hc p hp hh => by
    obtain ⟨e, he, _, _, h5⟩ := (hT2 c q hc p hp).1 hh
    have := closedS_lt h (h.ends e he).2.1 hp h5
    omega
  have hD0 : dSet t.length (closedS N N.start) := ⟨closedS_ok h h.start, fun p hp hh => by have := closedS_lt h h.start hp hh; omega⟩
  have hbn : ∀ c, c + 1 < 95 → bd[c + 1]? = some false → ∀ s, dSet t.length s → stepS t s (c + 1) = stepS t s c := fun c hc hf s _ => ofGo8_congr (hsame c hc hf) _ _ _
  have hdn : ∀ s c, dSet t.length s → c < 95 → dSet t.length (stepS t s c) := fun s c hs hc => by
    obtain ⟨g1, g2⟩ := ofW_spec hs.ok fun q _ => htok.set hc q
    refine ⟨g1, fun p hp hh => ?_⟩
    obtain ⟨r, hr, h1, h2⟩ := (g2 p hp).1 hh
    exact hin r c hc p hp h2
  obtain ⟨hw1, hw2, hw3, hw4, hw5, hw6⟩ := walkP_len hdn hD0 hw
  have hwalk := f_walk_Of_1 bd hB1 t htok hin hB2 hbn zeroW rfl 500 (by omega) (closedS N N.start) hD0 list rows hw
  have hlist : list.length ≤ 501 := walkGo_le _ _ _ _ _ (by simp) hw
  obtain ⟨LL, hLL⟩ : ∃ LL, LL = lastS t list zeroW list.length := ⟨_, rfl⟩
  rw [← hLL] at hwalk
  have hm := f_nfa_May h hl
  have hst := f_dfa_stepsOf h hl
  have hbo := f_dfa_borders h hl
  have hcl := f_nfa_Closed h hl h.start
  obtain ⟨hcl1, hcl2⟩ := closedL_lt h h.start
  have hso := f_dfa_setOf _ hcl1 hcl2
  rw [show setW (closedL N.edges N.n N.start) = closedS N N.start from rfl] at hso
  rw [← htd] at hst
  rw [← hbd] at hbo
  have hf95 : List.drop 95 (List.replicate 95 (V.bool false)) = [] := List.drop_of_length_le (by rw [List.length_replicate]; exact Nat.le_refl _)
  simp at hm hst hbo hcl
  simp (disch := omega) [-List.reduceReplicate]
  refine wcall_flat hm rfl fun _ => ?_
  simp (disch := omega) [-List.reduceReplicate]
  refine wcallD_pure hst (by simp) ?_
  simp (disch := omega) [-List.reduceReplicate]
  refine wcallD_flat hbo (by simp [flat]) ?_
  simp (disch := omega) [-List.reduceReplicate]
  refine wboth_one ⟨[(1, .ptr 0 0), (2, .ptr 1 0), (4, .ptr 2 0), (5, .ptr 3 0)], [some (.box (Net.c N)), some (.box [.nil 1, .nil 1]), some (.box [stepsV t]), some (.box (bd.map V.bool))]⟩ (fun F hF => ?_) ?_
  · simp at hF
    refine wbothK.mk ?_ ?_
    all_goals
      simp (disch := omega) [-List.reduceReplicate, hB1, hf95]
      exact hF
  simp (disch := omega) [-List.reduceReplicate]
  refine wcall_pure hcl (by simp) fun _ => ?_
  simp (disch := omega) [-List.reduceReplicate]
  refine wcall_flat hso (by simp [flat]) fun _ => ?_
  simp (disch := omega) [-List.reduceReplicate, zero8]
  refine wcallH_mk [1] 3 [3, 2, 4] (by simp) (by simp) (by simp [rowW]) (by simp) hwalk (by simp) fun _ _ => ?_
  simp (disch := omega) [-List.reduceReplicate]
  obtain ⟨n, hn⟩ : ∃ n, n = list.length := ⟨_, rfl⟩
  obtain ⟨fs, hfs⟩ : ∃ fs, fs = list.map fun s => hasW s N.stop := ⟨_, rfl⟩
  have hfl : fs.length = n := by simp [hfs, hn]
  rw [← hfs] at hb
  have haok : (Aut.mk rows fs).ok := by
    obtain ⟨h3, tt, h4⟩ := walkGo_inv eqB_refl hdn _ _ _ _ _ _ (winv_start hD0) hw
    rw [hfs]
    exact (walk_aut (good := fun s => hasW s N.stop) h3 hw2).1
  have hform := f_dfa_form haok (by simp only [Aut.n]; omega) hb
  simp at hform
  rw [← hn] at hlist hw1 ⊢
  refine W_loop (fun k : Nat => ⟨[(1, .ptr 0 0), (2, .ptr 1 0), (9, .ref 2 n), (11, .ref 3 n), (41, .ref 4 n), (42, .int .i64 n), (43, nV k)], [some (.box (Net.c N)), some (.box [.nil 1, .nil 1]), some (.arr ty_Iint 1 (rows.map rowN)), some (.arr ty_bool 1 (fillG V.bool false n (fs.take k))), some (.arr ty_dfa_set 8 (list.map rowW))]⟩)
    (fun k => k ≤ n) (fun k => n - k) [] _ 0 rfl (by simp [-List.reduceReplicate, ← fillG_nil, hw1]) (by simp) ?_
  intro k hk M hM
  rcases Nat.lt_or_ge k n with hlt | hge
  · obtain ⟨q, hq⟩ := get_lt (l := list) (k := k) (by omega)
    have hqd := hw4 q (List.mem_of_getElem? hq)
    have hql := hqd.ok.len
    have hx : fs[k]? = some (hasW q N.stop) := by simp [hfs, hq]
    have hak : (fs.take k).length = k := by simp; omega
    have hfl := fillG_len (f := V.bool) (d := false) (n := n) (acc := fs.take k) (by omega)
    have hg := fillG_get (f := V.bool) (d := false) (n := n) (acc := fs.take k) (by omega)
    have hs := fillG_set (f := V.bool) (d := false) (n := n) (acc := fs.take k) (by omega) (hasW q N.stop)
    rw [hak] at hg hs
    rw [← take_snoc hx] at hs
    have hhas := f_dfa_has q hqd.ok N.stop (by have := h.stop; omega)
    have h8q : List.take 8 (q.map u64V) = q.map u64V := List.take_of_length_le (by simp; omega)
    have hz : zeroW.length = 8 := rfl
    have hzd : List.drop 8 (zeroW.map u64V) = [] := rfl
    simp at hhas
    simp (disch := omega) [-List.reduceReplicate, hq, hn.symm, rowW, hql, h8q, zero8, hz, hzd]
    refine wcall_flat hhas rfl fun _ => ?_
    simp (disch := omega) [-List.reduceReplicate, hfl, hg, hs]
    exact hM.out _ <| Nx.mk (k + 1) (by simp) (by omega) (by omega)
  · have : k = n := by omega
    subst this
    have hff : fillG V.bool false k (fs.take k) = fs.map V.bool := by rw [List.take_of_length_le (by omega)]; exact fillG_full hfl
    simp (disch := omega) [-List.reduceReplicate, hff, hw1, hfl]
    refine wcall_kill hform fun _ => ?_
    simp (disch := omega) [-List.reduceReplicate, Aut.c]
end Go.Abs
