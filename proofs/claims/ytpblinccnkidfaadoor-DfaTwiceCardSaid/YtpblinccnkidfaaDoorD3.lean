/-
  What a walk through an automaton's states answers. No condition.
-/
import Derived.Test.YtpblinccnkidfaaDoorD2
set_option linter.unusedVariables false
set_option linter.unusedSimpArgs false
set_option maxHeartbeats 4000000
set_option maxRecDepth 100000
namespace Go.Abs
open Go.Proofs Go.Aut
attribute [-simp] getElem?_pos Option.not_isSome List.map_map
attribute [simp] rowN nextN finN
theorem f_dfa_form_1 {nx : List (List Nat)} {q c : Nat} {r : List Nat} {x : Nat} (hr : nx[q]? = some r) (hx : r[c]? = some x) : FnH Tryd.prog n_dfa_form_1 [2] [nV q, nV c, .ptr 0 0] [some (.box [nextN nx])] (nV x) [some (.box [nextN nx])] := by
  refine FnH.of_image mixed h_dfa_form_1 i_dfa_form_1 rfl fun ho hh => ?_
  unfold c_dfa_form_1
  clear ho hh
  simp (disch := omega) [-List.reduceReplicate, hr, hx]
theorem f_dfa_Least_1 {a : Aut} {q c : Nat} {r : List Nat} {x : Nat} (hr : a.next[q]? = some r) (hx : r[c]? = some x) : FnH Tryd.prog n_dfa_Least_1 [2] [nV q, nV c, .ptr 0 0] [some (.box (Aut.c a))] (nV x) [some (.box (Aut.c a))] := by
  refine FnH.of_image mixed h_dfa_Least_1 i_dfa_Least_1 rfl fun ho hh => ?_
  unfold c_dfa_Least_1
  clear ho hh
  simp (disch := omega) [-List.reduceReplicate, Aut.c, hr, hx]
theorem f_dfa_Least_2 {a : Aut} {q : Nat} {b : Bool} (hq : a.final[q]? = some b) : FnH Tryd.prog n_dfa_Least_2 [1] [nV q, .ptr 0 0] [some (.box (Aut.c a))] (.bool b) [some (.box (Aut.c a))] := by
  refine FnH.of_image mixed h_dfa_Least_2 i_dfa_Least_2 rfl fun ho hh => ?_
  unfold c_dfa_Least_2
  clear ho hh
  simp (disch := omega) [-List.reduceReplicate, Aut.c, hq]
/-- A row that is being filled. -/
def fillR (acc : List Nat) : List V := (acc ++ List.replicate (95 - acc.length) 0).map nV
theorem fillR_len {acc : List Nat} (h : acc.length ≤ 95) : (fillR acc).length = 95 := by simp [fillR]; omega
theorem fillR_set {acc : List Nat} (h : acc.length < 95) (k : Nat) : (fillR acc).set acc.length (nV k) = fillR (acc ++ [k]) := by
  obtain ⟨m, hm⟩ : ∃ m, 95 - acc.length = m + 1 := ⟨94 - acc.length, by omega⟩
  have h2 : 95 - (acc ++ [k]).length = m := by simp; omega
  simp only [fillR, hm, h2, List.replicate_succ, List.map_append, List.map_cons, List.append_assoc]
  rw [List.set_append_right _ _ (by simp)]
  simp
theorem fillR_get {acc : List Nat} (h : acc.length < 95) : (fillR acc)[acc.length]? = some (.int .i64 0) := by
  obtain ⟨m, hm⟩ : ∃ m, 95 - acc.length = m + 1 := ⟨94 - acc.length, by omega⟩
  simp only [fillR, hm, List.replicate_succ, List.map_append, List.map_cons]
  rw [List.getElem?_append_right (by simp)]
  simp [nV]
theorem fillR_full {acc : List Nat} (h : acc.length = 95) : fillR acc = acc.map nV := by simp [fillR, h]
theorem fillR_nil : List.replicate 95 (V.int .i64 0) = fillR [] := by simp [fillR]
theorem pos_eqB {K : Type} [DecidableEq K] {l : List K} (h : Apart eqB l) {i : Nat} {q : K} (hq : l[i]? = some q) : pos eqB q l = some i :=
  pos_self (fun a b h => by simp [eqB] at h ⊢; exact h.symm) (fun a b c h1 h2 => by simp [eqB] at h1 h2 ⊢; rw [h1, h2]) h hq (eqB_refl q)
theorem pos_snoc {K : Type} [DecidableEq K] {q : K} : ∀ {l : List K}, pos eqB q l = none → pos eqB q (l ++ [q]) = some l.length
  | [], _ => by simp [pos, eqB]
  | x :: l, h => by
    simp only [pos] at h
    split at h
    · cases h
    · rename_i hx
      have h' : pos eqB q l = none := by simpa using h
      simp only [List.cons_append, pos, hx, pos_snoc h']
      simp
theorem pos_add {K : Type} [DecidableEq K] (l : List K) (q : K) : pos eqB q (addL eqB l q) = some (addN eqB l q) := by
  cases hp : pos eqB q l with
  | some i => obtain ⟨h1, h2⟩ := add_some hp; rw [h1, h2, hp]
  | none => obtain ⟨h1, h2⟩ := add_none hp; rw [h1, h2, pos_snoc hp]
theorem addL_le {K : Type} [DecidableEq K] (l : List K) (q : K) : (addL eqB l q).length ≤ l.length + 1 := by unfold addL; split <;> simp
theorem addL_get {K : Type} [DecidableEq K] {l : List K} {q x : K} {i : Nat} (h : l[i]? = some x) : (addL eqB l q)[i]? = some x := by
  unfold addL; split
  · exact h
  · rw [List.getElem?_append_left (List.getElem?_eq_some_iff.1 h).1]; exact h
/-- The heap of a walk: a closure's variable, what has been met, rows; .. -/
def wkH (X : Option Ob) (rows : List (List Nat)) (l : List Nat) : List (Option Ob) := [X, some (.box [.ref 3 0, .ref 4 l.length]), some (.arr ty_Iint 1 (rows.map rowN)), some (.mp ktI (ents nV 0 l)), some (.arr ty_int 1 (l.map nV))]
def wkI (X : Option Ob) (rows : List (List Nat)) (l : List Nat) (acc : List Nat) : List (Option Ob) := [X, some (.box [.ref 4 0, .ref 5 l.length]), some (.arr ty_Iint 1 (rows.map rowN)), some (.arr ty_int 1 (fillR acc)), some (.mp ktI (ents nV 0 l)), some (.arr ty_int 1 (l.map nV))]
theorem f_walk_form_1 (nx : List (List Nat)) (n : Nat) (hn : rowsOK n nx) (hnl : nx.length = n) (most : Nat) (hm : most ≤ 100000) (start : Nat) (h0 : start < n) (list : List Nat) (rows : List (List Nat)) (hw : walkP eqB (dl nx) start most = some (list, rows)) :
    FnH Tryd.prog n_dfa_walkIint [1] [nV start, .fn (.func n_dfa_form_1) [] [.ptr 0 0], nV most] [some (.box [nextN nx])] (.tup [.ref 1 list.length, .ref 2 rows.length, .bool true]) [some (.box [nextN nx]), some (.arr ty_int 1 (list.map nV)), some (.arr ty_Iint 1 (rows.map rowN))] := by
  refine FnH.of_image mixed h_dfa_walkIint i_dfa_walkIint rfl fun ho hh => ?_
  unfold c_dfa_walkIint
  clear ho hh
  obtain ⟨R, hR⟩ : ∃ R, R = (V.tup [.ref 1 list.length, .ref 2 rows.length, .bool true]) := ⟨_, rfl⟩
  rw [← hR]
  simp (disch := omega) [-List.reduceReplicate]
  refine wcallH_mk [] 0 [] (by simp) (by simp) (by simp) (by simp) (f_meet_int start) (by simp) fun _ _ => ?_
  simp (disch := omega) [-List.reduceReplicate]
  refine W_loop (fun (x : Nat × Nat × List Nat × List (List Nat)) => ⟨[(1, .fn (.func n_dfa_form_1) [] [.ptr 0 0]), (2, nV most), (9, .ptr 1 0), (10, .ref 2 x.2.2.2.length), (11, nV x.2.1)], wkH (some (.box [nextN nx])) x.2.2.2 x.2.2.1⟩)
    (fun x => (∀ q ∈ x.2.2.1, q < n) ∧ Apart eqB x.2.2.1 ∧ x.2.1 ≤ x.2.2.1.length ∧ x.2.2.2.length = x.2.1 ∧ x.2.2.1.length ≤ most + 1 ∧ walkGo eqB (dl nx) most x.1 x.2.1 x.2.2.1 x.2.2.2 = some (list, rows)) (fun x => x.1) [.r 10 ty_Iint 1] _ (most + 2, 0, [start], []) rfl (by simp [wkH, ents]) ⟨by simpa using h0, Apart.one _, by simp, rfl, by simp, hw⟩ ?_
  rintro ⟨f, i, l, rw⟩ ⟨hd, hap, hil, hrl, hlm, hi⟩ N hN
  simp only at hd hap hil hrl hlm hi
  cases f with
  | zero => simp [walkGo] at hi
  | succ f =>
  simp only [walkGo] at hi
  rcases Nat.lt_or_ge i l.length with hlt | hge
  · obtain ⟨q, hq⟩ := get_lt hlt
    rw [hq] at hi
    simp only at hi
    have hqn := hd q (List.mem_of_getElem? hq)
    obtain ⟨T, hT⟩ : ∃ T, T = rowGo eqB (dl nx q) 95 0 l := ⟨_, rfl⟩
    rw [← hT] at hi
    replace hi := hid hi
    simp (disch := omega) [-List.reduceReplicate, wkH, hq]
    refine W_loop (fun (x : List Nat × List Nat × Nat × Nat) => ⟨[(1, .fn (.func n_dfa_form_1) [] [.ptr 0 0]), (2, nV most), (9, .ptr 1 0), (10, .ref 2 rw.length), (11, nV i), (12, .ref 3 95), (13, nV x.2.2.1), (14, nV x.2.2.2), (39, .int .i64 95), (40, nV x.1.length)], wkI (some (.box [nextN nx])) rw x.2.1 x.1⟩)
      (fun x => (∀ q ∈ x.2.1, q < n) ∧ x.1.length ≤ 95 ∧ x.2.1[i]? = some q ∧ x.2.1.length ≤ most + 1 + x.1.length ∧ pos eqB x.2.2.1 x.2.1 = some x.2.2.2 ∧ (x.1 ++ (rowGo eqB (dl nx q) (95 - x.1.length) x.1.length x.2.1).1, (rowGo eqB (dl nx q) (95 - x.1.length) x.1.length x.2.1).2) = T)
      (fun x => 95 - x.1.length) [] _ ([], l, q, i) rfl (by simp [wkI, fillR_nil]) ⟨hd, by simp, hq, by simp; omega, pos_eqB hap hq, by simp [hT]⟩ ?_
    rintro ⟨acc, l', last, num⟩ ⟨hd', hc, hq', hl', hp, hi'⟩ M hM
    simp only at hd' hc hq' hl' hp hi'
    rcases Nat.lt_or_ge acc.length 95 with hc95 | hc95
    · obtain ⟨rr, t, hr1, hr2, hr3, hr4⟩ := hn.dl (q := q) (c := acc.length) (by omega) hc95
      obtain ⟨m', hm'⟩ : ∃ m', 95 - acc.length = m' + 1 := ⟨94 - acc.length, by omega⟩
      have hm2 : 95 - (acc.length + 1) = m' := by omega
      rw [hm'] at hi'
      simp only [rowGo, hr3] at hi'
      have hset := fillR_set hc95
      have hfl := fillR_len (acc := acc) (by omega)
      replace hi' := hid hi'
      have hil' := (List.getElem?_eq_some_iff.1 hq').1
      simp (disch := omega) [-List.reduceReplicate, wkI, hq']
      refine wcallH_mk [2] 1 [0] (by simp) (by simp) (by simp) (by simp) (f_dfa_form_1 hr1 hr2) (by simp) fun _ _ => ?_
      simp (disch := omega) [-List.reduceReplicate, hq']
      have next : ∀ (num' : Nat) (last' : Nat), pos eqB last' (addL eqB l' t) = some num' → num' = addN eqB l' t → ∀ τ : St, τ.nrm [1, 2, 9, 10, 11, 12, 13, 14, 39, 40] = ⟨[(1, .fn (.func n_dfa_form_1) [] [.ptr 0 0]), (2, nV most), (9, .ptr 1 0), (10, .ref 2 rw.length), (11, nV i), (12, .ref 3 95), (13, nV last'), (14, nV num'), (39, .int .i64 95), (40, .int .i64 ((acc.length : Int) + 1))], wkI (some (.box [nextN nx])) rw (addL eqB l' t) (acc ++ [num'])⟩ → M τ := by
        intro num' last' h1 h2 τ hτ
        have h3 := addL_le l' t
        refine hM.out τ <| Nx.mk (acc ++ [num'], addL eqB l' t, last', num') (by simpa using hτ) ⟨?_, by simp; omega, addL_get hq', by simp; omega, h1, ?_⟩ (by simp; omega)
        · intro x hx
          rcases addL_mem hx with hx | rfl
          · exact hd' x hx
          · exact hr4
        · have := hi'.out
          rw [← this]
          simp [hm2, h2]
      replace next := hid next
      by_cases hlt2 : t = last
      · subst hlt2
        obtain ⟨e1, e2⟩ := add_some hp
        have hs := hset num
        simp only [nV] at hs
        simp (disch := omega) [-List.reduceReplicate, hfl, hs, fillR_get hc95]
        exact next.out num t (by rw [e2]; exact hp) e1.symm _ (by simp [wkI, e2])
      · simp (disch := omega) [-List.reduceReplicate, hlt2]
        refine wcallH_mk [0] 1 [1, 4, 5] (by simp) (by simp) (by simp) (by simp) (f_met_add_int l' t (by omega)) (by simp) fun _ _ => ?_
        have hs := hset (addN eqB l' t)
        simp only [nV] at hs
        simp (disch := omega) [-List.reduceReplicate, hfl, hs, fillR_get hc95]
        exact next.out _ t (pos_add l' t) rfl _ (by simp [wkI])
    · have hacc : acc.length = 95 := by omega
      have h0 : 95 - acc.length = 0 := by omega
      rw [h0] at hi'
      simp only [rowGo, List.append_nil] at hi'
      subst hi'
      have hil' := (List.getElem?_eq_some_iff.1 hq').1
      have hi2 := hi.out
      simp only at hi2
      split at hi2
      · cases hi2
      · rename_i hle
        have hf := fillR_full hacc
        have hfl : (fillR acc).length = 95 := fillR_len (by omega)
        simp (disch := omega) [-List.reduceReplicate, wkI, hacc, hfl]
        refine hN.out _ <| Nx.mk (f, i + 1, l', rw ++ [acc]) (by simp [wkH, hf, hrl]) ⟨hd', ?_, by simp only; omega, by simp [hrl], by simp only; omega, hi2⟩ (by simp only; omega)
        have := rowGo_apart (e := eqB) (dl nx q) 95 0 l hap
        rw [← hT] at this
        exact this
  · have : i = l.length := by omega
    subst this
    rw [List.getElem?_eq_none (by omega)] at hi
    simp only [Option.some.injEq, Prod.mk.injEq] at hi
    obtain ⟨rfl, rfl⟩ := hi
    simp (disch := omega) [-List.reduceReplicate, wkH, hR]
end Go.Abs
