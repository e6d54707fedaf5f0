/-
  What a walk through an automaton's states answers. No condition.
-/
import Derived.Test.YtpblinccnkidfaaDoorD3
set_option linter.unusedVariables false
set_option linter.unusedSimpArgs false
set_option maxHeartbeats 4000000
set_option maxRecDepth 100000
namespace Go.Abs
open Go.Proofs Go.Aut
attribute [-simp] getElem?_pos Option.not_isSome List.map_map
def f2H (cls : List Nat) (nx : List (List Nat)) (of : List Nat) : List (Option Ob) := [some (.box [rowN cls]), some (.box [.ref 3 nx.length]), some (.box [.ref 4 of.length]), some (.arr ty_Iint 1 (nx.map rowN)), some (.arr ty_int 1 (of.map nV))]
def f2R (cls : List Nat) (nx : List (List Nat)) (of list : List Nat) (rows : List (List Nat)) : List (Option Ob) := [some (.box [rowN cls]), some (.box [.ref 5 nx.length]), some (.box [.ref 6 of.length]), some (.arr ty_int 1 (list.map nV)), some (.arr ty_Iint 1 (rows.map rowN)), some (.arr ty_Iint 1 (nx.map rowN)), some (.arr ty_int 1 (of.map nV))]
attribute [simp] f2H f2R
def wkH3 (cls : List Nat) (nx : List (List Nat)) (of : List Nat) (rows : List (List Nat)) (l : List Nat) : List (Option Ob) := [some (.box [rowN cls]), some (.box [.ref 5 nx.length]), some (.box [.ref 6 of.length]), some (.box [.ref 7 0, .ref 8 l.length]), some (.arr ty_Iint 1 (rows.map rowN)), some (.arr ty_Iint 1 (nx.map rowN)), some (.arr ty_int 1 (of.map nV)), some (.mp ktI (ents nV 0 l)), some (.arr ty_int 1 (l.map nV))]
def wkI3 (cls : List Nat) (nx : List (List Nat)) (of : List Nat) (rows : List (List Nat)) (l : List Nat) (acc : List Nat) : List (Option Ob) := [some (.box [rowN cls]), some (.box [.ref 6 nx.length]), some (.box [.ref 7 of.length]), some (.box [.ref 8 0, .ref 9 l.length]), some (.arr ty_Iint 1 (rows.map rowN)), some (.arr ty_int 1 (fillR acc)), some (.arr ty_Iint 1 (nx.map rowN)), some (.arr ty_int 1 (of.map nV)), some (.mp ktI (ents nV 0 l)), some (.arr ty_int 1 (l.map nV))]
theorem f_dfa_form_2 {cls : List Nat} {nx : List (List Nat)} {of : List Nat} {q c p x y : Nat} {r : List Nat} (hp : of[q]? = some p) (hr : nx[p]? = some r) (hx : r[c]? = some x) (hy : cls[x]? = some y) :
    FnH Tryd.prog n_dfa_form_2 [2, 3, 4] [nV q, nV c, .ptr 0 0, .ptr 1 0, .ptr 2 0] (f2H cls nx of) (nV y) (f2H cls nx of) := by
  refine FnH.of_image mixed h_dfa_form_2 i_dfa_form_2 rfl fun ho hh => ?_
  unfold c_dfa_form_2
  clear ho hh
  have h1 := (List.getElem?_eq_some_iff.1 hp).1
  have h2 := (List.getElem?_eq_some_iff.1 hr).1
  simp (disch := omega) [-List.reduceReplicate, hp, hr, hx, hy]
theorem f_walk_form_2 (cls : List Nat) (nx : List (List Nat)) (of : List Nat) (step : Nat → Nat → Nat) (D : Nat → Prop)
    (hst : ∀ q c, D q → c < 95 → ∃ t, step q c = t ∧ D t ∧ FnH Tryd.prog n_dfa_form_2 [2, 3, 4] [nV q, nV c, .ptr 0 0, .ptr 1 0, .ptr 2 0] (f2H cls nx of) (nV t) (f2H cls nx of))
    (most : Nat) (hm : most ≤ 100000) (start : Nat) (h0 : D start) (list : List Nat) (rows : List (List Nat)) (hw : walkP eqB step start most = some (list, rows)) :
    FnH Tryd.prog n_dfa_walkIint [1] [nV start, .fn (.func n_dfa_form_2) [] [.ptr 0 0, .ptr 1 0, .ptr 2 0], nV most] (f2H cls nx of) (.tup [.ref 3 list.length, .ref 4 rows.length, .bool true]) (f2R cls nx of list rows) := by
  refine FnH.of_image mixed h_dfa_walkIint i_dfa_walkIint rfl fun ho hh => ?_
  unfold c_dfa_walkIint
  clear ho hh
  obtain ⟨R, hR⟩ : ∃ R, R = (V.tup [.ref 3 list.length, .ref 4 rows.length, .bool true]) := ⟨_, rfl⟩
  rw [← hR]
  simp (disch := omega) [-List.reduceReplicate]
  refine wcallH_mk [] 0 [] (by simp) (by simp) (by simp) (by simp) (f_meet_int start) (by simp) fun _ _ => ?_
  simp (disch := omega) [-List.reduceReplicate]
  refine W_loop (fun (x : Nat × Nat × List Nat × List (List Nat)) => ⟨[(1, .fn (.func n_dfa_form_2) [] [.ptr 0 0, .ptr 1 0, .ptr 2 0]), (2, nV most), (9, .ptr 3 0), (10, .ref 4 x.2.2.2.length), (11, nV x.2.1)], wkH3 cls nx of x.2.2.2 x.2.2.1⟩)
    (fun x => (∀ q ∈ x.2.2.1, D q) ∧ Apart eqB x.2.2.1 ∧ x.2.1 ≤ x.2.2.1.length ∧ x.2.2.2.length = x.2.1 ∧ x.2.2.1.length ≤ most + 1 ∧ walkGo eqB step most x.1 x.2.1 x.2.2.1 x.2.2.2 = some (list, rows)) (fun x => x.1) [.r 10 ty_Iint 1] _ (most + 2, 0, [start], []) rfl (by simp [wkH3, ents]) ⟨by simpa using h0, Apart.one _, by simp, rfl, by simp, hw⟩ ?_
  rintro ⟨f, i, l, rw⟩ ⟨hd, hap, hil, hrl, hlm, hi⟩ N hN
  simp only at hd hap hil hrl hlm hi
  cases f with
  | zero => simp [walkGo] at hi
  | succ f =>
  simp only [walkGo] at hi
  rcases Nat.lt_or_ge i l.length with hlt | hge
  · obtain ⟨q, hq⟩ := get_lt hlt
    rw [hq] at hi
    simp only at hi
    have hqn := hd q (List.mem_of_getElem? hq)
    obtain ⟨T, hT⟩ : ∃ T, T = rowGo eqB (step q) 95 0 l := ⟨_, rfl⟩
    rw [← hT] at hi
    replace hi := hid hi
    simp (disch := omega) [-List.reduceReplicate, wkH3, hq]
    refine W_loop (fun (x : List Nat × List Nat × Nat × Nat) => ⟨[(1, .fn (.func n_dfa_form_2) [] [.ptr 0 0, .ptr 1 0, .ptr 2 0]), (2, nV most), (9, .ptr 3 0), (10, .ref 4 rw.length), (11, nV i), (12, .ref 5 95), (13, nV x.2.2.1), (14, nV x.2.2.2), (39, .int .i64 95), (40, nV x.1.length)], wkI3 cls nx of rw x.2.1 x.1⟩)
      (fun x => (∀ q ∈ x.2.1, D q) ∧ x.1.length ≤ 95 ∧ x.2.1[i]? = some q ∧ x.2.1.length ≤ most + 1 + x.1.length ∧ pos eqB x.2.2.1 x.2.1 = some x.2.2.2 ∧ (x.1 ++ (rowGo eqB (step q) (95 - x.1.length) x.1.length x.2.1).1, (rowGo eqB (step q) (95 - x.1.length) x.1.length x.2.1).2) = T)
      (fun x => 95 - x.1.length) [] _ ([], l, q, i) rfl (by simp [wkI3, fillR_nil]) ⟨hd, by simp, hq, by simp; omega, pos_eqB hap hq, by simp [hT]⟩ ?_
    rintro ⟨acc, l', last, num⟩ ⟨hd', hc, hq', hl', hp, hi'⟩ M hM
    simp only at hd' hc hq' hl' hp hi'
    rcases Nat.lt_or_ge acc.length 95 with hc95 | hc95
    · obtain ⟨t, hr3, hr4, hr5⟩ := hst q acc.length hqn hc95
      obtain ⟨m', hm'⟩ : ∃ m', 95 - acc.length = m' + 1 := ⟨94 - acc.length, by omega⟩
      have hm2 : 95 - (acc.length + 1) = m' := by omega
      rw [hm'] at hi'
      simp only [rowGo, hr3] at hi'
      have hset := fillR_set hc95
      have hfl := fillR_len (acc := acc) (by omega)
      replace hi' := hid hi'
      have hil' := (List.getElem?_eq_some_iff.1 hq').1
      simp (disch := omega) [-List.reduceReplicate, wkI3, hq']
      refine wcallH_mk [2, 3, 4] 3 [0, 1, 2, 6, 7] (by simp) (by simp) (by simp) (by simp) (hr5) (by simp) fun _ _ => ?_
      simp (disch := omega) [-List.reduceReplicate, hq']
      have next : ∀ (num' : Nat) (last' : Nat), pos eqB last' (addL eqB l' t) = some num' → num' = addN eqB l' t → ∀ τ : St, τ.nrm [1, 2, 9, 10, 11, 12, 13, 14, 39, 40] = ⟨[(1, .fn (.func n_dfa_form_2) [] [.ptr 0 0, .ptr 1 0, .ptr 2 0]), (2, nV most), (9, .ptr 3 0), (10, .ref 4 rw.length), (11, nV i), (12, .ref 5 95), (13, nV last'), (14, nV num'), (39, .int .i64 95), (40, .int .i64 ((acc.length : Int) + 1))], wkI3 cls nx of rw (addL eqB l' t) (acc ++ [num'])⟩ → M τ := by
        intro num' last' h1 h2 τ hτ
        have h3 := addL_le l' t
        refine hM.out τ <| Nx.mk (acc ++ [num'], addL eqB l' t, last', num') (by simpa using hτ) ⟨?_, by simp; omega, addL_get hq', by simp; omega, h1, ?_⟩ (by simp; omega)
        · intro x hx
          rcases addL_mem hx with hx | rfl
          · exact hd' x hx
          · exact hr4
        · have := hi'.out
          rw [← this]
          simp [hm2, h2]
      replace next := hid next
      by_cases hlt2 : t = last
      · subst hlt2
        obtain ⟨e1, e2⟩ := add_some hp
        have hs := hset num
        simp only [nV] at hs
        simp (disch := omega) [-List.reduceReplicate, hfl, hs, fillR_get hc95]
        exact next.out num t (by rw [e2]; exact hp) e1.symm _ (by simp [wkI3, e2])
      · simp (disch := omega) [-List.reduceReplicate, hlt2]
        refine wcallH_mk [0] 1 [3, 8, 9] (by simp) (by simp) (by simp) (by simp) (f_met_add_int l' t (by omega)) (by simp) fun _ _ => ?_
        have hs := hset (addN eqB l' t)
        simp only [nV] at hs
        simp (disch := omega) [-List.reduceReplicate, hfl, hs, fillR_get hc95]
        exact next.out _ t (pos_add l' t) rfl _ (by simp [wkI3])
    · have hacc : acc.length = 95 := by omega
      have h0 : 95 - acc.length = 0 := by omega
      rw [h0] at hi'
      simp only [rowGo, List.append_nil] at hi'
      subst hi'
      have hil' := (List.getElem?_eq_some_iff.1 hq').1
      have hi2 := hi.out
      simp only at hi2
      split at hi2
      · cases hi2
      · rename_i hle
        have hf := fillR_full hacc
        have hfl : (fillR acc).length = 95 := fillR_len (by omega)
        simp (disch := omega) [-List.reduceReplicate, wkI3, hacc, hfl]
        refine hN.out _ <| Nx.mk (f, i + 1, l', rw ++ [acc]) (by simp [wkH3, hf, hrl]) ⟨hd', ?_, by simp only; omega, by simp [hrl], by simp only; omega, hi2⟩ (by simp only; omega)
        have := rowGo_apart (e := eqB) (step q) 95 0 l hap
        rw [← hT] at this
        exact this
  · have : i = l.length := by omega
    subst this
    rw [List.getElem?_eq_none (by omega)] at hi
    simp only [Option.some.injEq, Prod.mk.injEq] at hi
    obtain ⟨rfl, rfl⟩ := hi
    simp (disch := omega) [-List.reduceReplicate, wkH3, hR]
end Go.Abs
