/-
  A walk through sets of states: what it answers. No condition.
-/
import Derived.Test.YtpblinccnkidfaaDoorD14
set_option linter.unusedVariables false
set_option linter.unusedSimpArgs false
set_option maxHeartbeats 1000000
set_option maxRecDepth 100000
namespace Go.Abs
open Go.Proofs Go.Aut
attribute [-simp] getElem?_pos Option.not_isSome List.map_map
attribute [simp] stepsV
def wsH (bd : List Bool) (t : List (List Nat)) (L : List Nat) (rows : List (List Nat)) (l : List (List Nat)) : List (Option Ob) := [some (.box (bd.map V.bool)), some (.box [stepsV t]), some (.box (L.map u64V)), some (.box [.ref 5 0, .ref 6 l.length]), some (.arr ty_Iint 1 (rows.map rowN)), some (.mp ktS (ents rowW 0 l)), some (.arr ty_dfa_set 8 (l.map rowW))]
def wsI (bd : List Bool) (t : List (List Nat)) (L : List Nat) (rows : List (List Nat)) (l : List (List Nat)) (acc last : List Nat) : List (Option Ob) := [some (.box (bd.map V.bool)), some (.box [stepsV t]), some (.box (L.map u64V)), some (.box [.ref 7 0, .ref 8 l.length]), some (.arr ty_Iint 1 (rows.map rowN)), some (.arr ty_int 1 (fillR acc)), some (.box (last.map u64V)), some (.mp ktS (ents rowW 0 l)), some (.arr ty_dfa_set 8 (l.map rowW))]
/-- What the walk's closure has told last. -/
def lastS (t : List (List Nat)) (l : List (List Nat)) (L : List Nat) : Nat → List Nat
  | 0 => L
  | i + 1 => match l[i]? with
    | some q => stepS t q 94
    | none => L
theorem f_walk_Of_1 (bd : List Bool) (hbd : bd.length = 95) (t : List (List Nat)) (ht : stepsOK t) (hin : ∀ q c, c < 95 → ∀ p < 512, hasW (setAt t c q) p = true → p < t.length)
    (hb0 : bd[0]? = some true) (hbn : ∀ c, c + 1 < 95 → bd[c + 1]? = some false → ∀ s, dSet t.length s → stepS t s (c + 1) = stepS t s c)
    (L0 : List Nat) (hL0 : L0.length = 8) (most : Nat) (hm : most ≤ 100000) (start : List Nat) (h0 : dSet t.length start) (list : List (List Nat)) (rows : List (List Nat)) (hw : walkP eqB (stepS t) start most = some (list, rows)) :
    FnH Tryd.prog n_dfa_walkIdfa_set [1] [rowW start, .fn (.func n_dfa_Of_1) [] [.ptr 0 0, .ptr 1 0, .ptr 2 0], nV most] (of1H bd t L0) (.tup [.ref 3 list.length, .ref 4 rows.length, .bool true]) (of1H bd t (lastS t list L0 list.length) ++ [some (.arr ty_dfa_set 8 (list.map rowW)), some (.arr ty_Iint 1 (rows.map rowN))]) := by
  refine FnH.of_image mixed h_dfa_walkIdfa_set i_dfa_walkIdfa_set rfl fun ho hh => ?_
  unfold c_dfa_walkIdfa_set
  clear ho hh
  have hdn : ∀ s c, dSet t.length s → c < 95 → dSet t.length (stepS t s c) := fun s c hs hc => by
    obtain ⟨g1, g2⟩ := ofW_spec hs.ok fun q _ => ht.set hc q
    refine ⟨g1, fun p hp hh => ?_⟩
    obtain ⟨r, hr, h1, h2⟩ := (g2 p hp).1 hh
    exact hin r c hc p hp h2
  have h8 : ∀ x : List Nat, x.length = 8 → List.take 8 (x.map u64V) = x.map u64V := fun x hx => List.take_of_length_le (by simp; omega)
  have hd8 : ∀ x : List Nat, x.length = 8 → List.drop 8 (x.map u64V) = [] := fun x hx => List.drop_of_length_le (by simp; omega)
  have hst := h0.ok.len
  have h8s := h8 start hst
  have hz : zeroW.length = 8 := rfl
  have hzd : List.drop 8 (zeroW.map u64V) = [] := rfl
  obtain ⟨RL, hRL⟩ : ∃ RL, RL = lastS t list L0 list.length := ⟨_, rfl⟩
  rw [← hRL]
  simp (disch := omega) [-List.reduceReplicate, rowW, hst, h8s]
  refine wcallH_mk [] 0 [] (by simp) (by simp) (by simp [rowW]) (by simp) (f_meet_set start hst) (by simp) fun _ _ => ?_
  simp (disch := omega) [-List.reduceReplicate]
  refine W_loop (fun (x : Nat × Nat × List (List Nat) × List (List Nat) × List Nat) => ⟨[(1, .fn (.func n_dfa_Of_1) [] [.ptr 0 0, .ptr 1 0, .ptr 2 0]), (2, nV most), (9, .ptr 3 0), (10, .ref 4 x.2.2.2.1.length), (11, nV x.2.1)], wsH bd t x.2.2.2.2 x.2.2.2.1 x.2.2.1⟩)
    (fun x => (∀ q ∈ x.2.2.1, dSet t.length q) ∧ Apart eqB x.2.2.1 ∧ x.2.1 ≤ x.2.2.1.length ∧ x.2.2.2.1.length = x.2.1 ∧ x.2.2.1.length ≤ most + 1 ∧ x.2.2.2.2 = lastS t x.2.2.1 L0 x.2.1 ∧ x.2.2.2.2.length = 8 ∧ walkGo eqB (stepS t) most x.1 x.2.1 x.2.2.1 x.2.2.2.1 = some (list, rows)) (fun x => x.1) [.r 10 ty_Iint 1] _ (most + 2, 0, [start], [], L0) rfl (by simp [wsH, ents, stepsV]) ⟨by simpa using h0, Apart.one _, by simp, rfl, by simp, rfl, hL0, hw⟩ ?_
  rintro ⟨f, i, l, rw, L⟩ ⟨hd, hap, hil, hrl, hlm, hLe, hLl, hi⟩ N hN
  simp only at hd hap hil hrl hlm hLe hLl hi
  cases f with
  | zero => simp [walkGo] at hi
  | succ f =>
  simp only [walkGo] at hi
  rcases Nat.lt_or_ge i l.length with hlt | hge
  · obtain ⟨q, hq⟩ := get_lt hlt
    rw [hq] at hi
    simp only at hi
    have hqn := hd q (List.mem_of_getElem? hq)
    have hql := hqn.ok.len
    have h8q := h8 q hql
    obtain ⟨T, hT⟩ : ∃ T, T = rowGo eqB (stepS t q) 95 0 l := ⟨_, rfl⟩
    rw [← hT] at hi
    replace hi := hid hi
    simp (disch := omega) [-List.reduceReplicate, wsH, hq, rowW, hql, h8q, zero8, hz, hzd]
    refine W_loop (fun (x : List Nat × List (List Nat) × List Nat × Nat × List Nat) => ⟨[(1, .fn (.func n_dfa_Of_1) [] [.ptr 0 0, .ptr 1 0, .ptr 2 0]), (2, nV most), (9, .ptr 3 0), (10, .ref 4 rw.length), (11, nV i), (12, .ref 5 95), (13, .ptr 6 0), (14, nV x.2.2.2.1), (39, .int .i64 95), (40, nV x.1.length)], wsI bd t x.2.2.2.2 rw x.2.1 x.1 x.2.2.1⟩)
      (fun x => (∀ q ∈ x.2.1, dSet t.length q) ∧ x.1.length ≤ 95 ∧ x.2.1[i]? = some q ∧ x.2.1.length ≤ most + 1 + x.1.length ∧ x.2.2.1.length = 8 ∧ x.2.2.2.2.length = 8 ∧ (∀ c, x.1.length = c + 1 → x.2.2.2.2 = stepS t q c) ∧ pos eqB x.2.2.1 x.2.1 = some x.2.2.2.1 ∧ (x.1 ++ (rowGo eqB (stepS t q) (95 - x.1.length) x.1.length x.2.1).1, (rowGo eqB (stepS t q) (95 - x.1.length) x.1.length x.2.1).2) = T)
      (fun x => 95 - x.1.length) [] _ ([], l, q, i, L) rfl (by simp [wsI, fillR_nil, stepsV]) ⟨hd, by simp, hq, by simp; omega, hql, hLl, by simp, pos_eqB hap hq, by simp [hT]⟩ ?_
    rintro ⟨acc, l', last, num, L'⟩ ⟨hd', hc, hq', hl', hll, hLl', hLc, hp, hi'⟩ M hM
    simp only at hd' hc hq' hl' hll hLl' hLc hp hi'
    have hil' := (List.getElem?_eq_some_iff.1 hq').1
    rcases Nat.lt_or_ge acc.length 95 with hc95 | hc95
    · obtain ⟨b, hb⟩ := get_lt (l := bd) (k := acc.length) (by omega)
      have hof := f_dfa_Of_1 bd hbd t ht L' q hLl' hqn acc.length hc95 b hb
      have hto : (if b = true then stepS t q acc.length else L') = stepS t q acc.length := by
        cases b with
        | true => rfl
        | false =>
          cases hac : acc.length with
          | zero => rw [hac, hb0] at hb; cases hb
          | succ c =>
            rw [hac] at hb
            rw [hLc c hac, hbn c (by omega) hb q hqn]
            rfl
      rw [hto] at hof
      obtain ⟨to, htoe⟩ : ∃ to, to = stepS t q acc.length := ⟨_, rfl⟩
      rw [← htoe] at hof
      have hton := hdn q acc.length hqn hc95
      rw [← htoe] at hton
      have htol := hton.ok.len
      obtain ⟨m', hm'⟩ : ∃ m', 95 - acc.length = m' + 1 := ⟨94 - acc.length, by omega⟩
      have hm2 : 95 - (acc.length + 1) = m' := by omega
      rw [hm'] at hi'
      simp only [rowGo, ← htoe] at hi'
      have hset := fillR_set hc95
      have hfl := fillR_len (acc := acc) (by omega)
      have h8t := h8 to htol
      have h8l := h8 last hll
      have hd8l := hd8 last hll
      have ff1 := fits_rowW htol
      have ff2 := fits_rowW hll
      have feq := eqK_rowW to last
      simp only [rowW, ktS] at ff1 ff2 feq
      replace hi' := hid hi'
      simp (disch := omega) [-List.reduceReplicate, wsI, hq', rowW, hql, h8q]
      refine wcallH_mk [2, 3, 4] 3 [0, 1, 2] (by simp) (by simp) (by simp [rowW]) (by simp) hof (by simp) fun _ _ => ?_
      simp (disch := omega) [-List.reduceReplicate, rowW, htol, hz, hzd, zero8, h8t, h8l, hll, ff1, ff2, feq]
      have next : ∀ (num' : Nat) (last' : List Nat), last'.length = 8 → pos eqB last' (addL eqB l' to) = some num' → num' = addN eqB l' to → ∀ τ : St, τ.nrm [1, 2, 9, 10, 11, 12, 13, 14, 39, 40] = ⟨[(1, .fn (.func n_dfa_Of_1) [] [.ptr 0 0, .ptr 1 0, .ptr 2 0]), (2, nV most), (9, .ptr 3 0), (10, .ref 4 rw.length), (11, nV i), (12, .ref 5 95), (13, .ptr 6 0), (14, nV num'), (39, .int .i64 95), (40, .int .i64 ((acc.length : Int) + 1))], wsI bd t to rw (addL eqB l' to) (acc ++ [num']) last'⟩ → M τ := by
        intro num' last' h0 h1 h2 τ hτ
        have h3 := addL_le l' to
        refine hM.out τ <| Nx.mk (acc ++ [num'], addL eqB l' to, last', num', to) (by simpa using hτ) ⟨?_, by simp; omega, addL_get hq', by simp; omega, h0, htol, ?_, h1, ?_⟩ (by simp; omega)
        · intro x hx
          rcases addL_mem hx with hx | rfl
          · exact hd' x hx
          · exact hton
        · intro c hc
          simp at hc
          rw [htoe, hc]
        · have := hi'.out
          rw [← this]
          simp [hm2, h2]
      replace next := hid next
      by_cases hlt2 : to = last
      · subst hlt2
        obtain ⟨e1, e2⟩ := add_some hp
        have hs := hset num
        simp only [nV] at hs
        simp (disch := omega) [-List.reduceReplicate, hfl, hs, fillR_get hc95]
        exact next.out num to hll (by rw [e2]; exact hp) e1.symm _ (by simp [wsI, e2])
      · simp (disch := omega) [-List.reduceReplicate, hlt2, htol, h8t]
        refine wboth_one ⟨[(1, .fn (.func n_dfa_Of_1) [] [.ptr 0 0, .ptr 1 0, .ptr 2 0]), (2, nV most), (9, .ptr 3 0), (10, .ref 4 rw.length), (11, nV i), (12, .ref 5 95), (13, .ptr 6 0), (14, nV (addN eqB l' to)), (15, nV acc.length), (39, .int .i64 95), (40, nV acc.length)], wsI bd t to rw (addL eqB l' to) acc to⟩ (fun F hF => ?_) ?_
        · simp [wsI] at hF
          refine wbothK.mk ?_ ?_
          · simp (disch := omega) [-List.reduceReplicate, rowW, htol, h8t]
            refine wcallHD_mk [0] 1 [3, 7, 8] (by simp) (by simp) (by simp [rowW]) (by simp) (f_met_add_set l' to (by omega) htol) (by simp) ?_
            simp (disch := omega) [-List.reduceReplicate, hll, hd8l, htol]
            exact hF
          · simp (disch := omega) [-List.reduceReplicate, rowW, htol, h8t]
            refine wcallHD_mk [0] 1 [3, 7, 8] (by simp) (by simp) (by simp [rowW]) (by simp) (f_met_add_set l' to (by omega) htol) (by simp) ?_
            simp (disch := omega) [-List.reduceReplicate, hll, hd8l, htol, h8t]
            exact hF
        have hs := hset (addN eqB l' to)
        simp only [nV] at hs
        simp (disch := omega) [-List.reduceReplicate, wsI, hfl, hs, fillR_get hc95]
        exact next.out _ to htol (pos_add l' to) rfl _ (by simp [wsI])
    · have hacc : acc.length = 95 := by omega
      have h0 : 95 - acc.length = 0 := by omega
      rw [h0] at hi'
      simp only [rowGo, List.append_nil] at hi'
      subst hi'
      have hi2 := hi.out
      simp only at hi2
      split at hi2
      · cases hi2
      · rename_i hle
        have hf := fillR_full hacc
        have hfl : (fillR acc).length = 95 := fillR_len (by omega)
        have hLast : L' = lastS t l' L0 (i + 1) := by rw [hLc 94 (by omega)]; simp [lastS, hq']
        simp (disch := omega) [-List.reduceReplicate, wsI, hacc, hfl]
        refine hN.out _ <| Nx.mk (f, i + 1, l', rw ++ [acc], L') (by simp [wsH, hf, hrl]) ⟨hd', ?_, by simp only; omega, by simp [hrl], by simp only; omega, hLast, hLl', hi2⟩ (by simp only; omega)
        have := rowGo_apart (e := eqB) (stepS t q) 95 0 l hap
        rw [← hT] at this
        exact this
  · have hil2 : i = l.length := by omega
    rw [List.getElem?_eq_none (by omega)] at hi
    simp only [Option.some.injEq, Prod.mk.injEq] at hi
    obtain ⟨rfl, rfl⟩ := hi
    subst hil2
    rw [← hRL] at hLe
    subst hLe
    simp (disch := omega) [-List.reduceReplicate, wsH]
end Go.Abs
