/-
  The least text that an automaton accepts. No condition.
-/
import Derived.Test.YtpblinccnkidfaaDoorD19
set_option linter.unusedVariables false
set_option linter.unusedSimpArgs false
set_option maxHeartbeats 1000000
set_option maxRecDepth 100000
namespace Go.Abs
open Go.Proofs Go.Aut
attribute [-simp] getElem?_pos Option.not_isSome List.map_map
def ltrKK (e sz : Nat) (d : Option Nat) (K : St → Prop) (σ : St) (vs us : List V) : Prop := sameLen sz us = true ∧ us.length ≤ 16777216 ∧ K (St.put ⟨(σ.kill (vidss vs)).r, (σ.kill (vidss vs)).h ++ [some (Ob.arr e sz us)]⟩ d (.ref (σ.kill (vidss vs)).h.length us.length))
def ltrK (e sz : Nat) (d : Option Nat) (K : St → Prop) (σ : St) (vs : List V) : Prop := oM (purs σ.h vs) (ltrKK e sz d K σ vs)
theorem ltrKK_app {e sz : Nat} {d : Option Nat} {K : St → Prop} {σ : St} {vs us : List V} : ltrKK e sz d K σ vs us = (sameLen sz us = true ∧ us.length ≤ 16777216 ∧ K (St.put ⟨(σ.kill (vidss vs)).r, (σ.kill (vidss vs)).h ++ [some (Ob.arr e sz us)]⟩ d (.ref (σ.kill (vidss vs)).h.length us.length))) := propext Iff.rfl
theorem ltrK_app {e sz : Nat} {d : Option Nat} {K : St → Prop} {σ : St} {vs : List V} : ltrK e sz d K σ vs = oM (purs σ.h vs) (ltrKK e sz d K σ vs) := propext Iff.rfl
theorem a_ltr {Φ : Ctr} {d : Option Nat} {K : St → Prop} {σ : St} {e sz : Nat} {xs : List AO} : wact Φ d (.ltr e sz xs) K σ = oM (σ.evs xs) (ltrK e sz d K σ) := by
  simp only [wact, oM]
  cases σ.evs xs with
  | none => rfl
  | some vs =>
    simp only [ltrK, oM]
    cases purs σ.h vs <;> rfl
attribute [simp] ltrKK_app ltrK_app a_ltr
theorem f_meet_int_ref (q : Nat) : FnH Tryd.prog n_dfa_meetIint [] [.ref 0 1] [some (.arr ty_int 1 [nV q])] (.ptr 0 0) (metH ktI ty_int 1 nV [q]) := by
  refine FnH.of_image mixed h_dfa_meetIint i_dfa_meetIint rfl fun ho hh => ?_
  unfold c_dfa_meetIint
  clear ho hh
  simp (disch := omega) [-List.reduceReplicate]
  refine W_loop (fun k : Nat => if k = 0 then ⟨[(3, .ptr 0 0), (9, .ref 1 1), (10, .int .i64 1), (11, .int .i64 0)], [some (.box [.ref 2 0, .nil 1]), some (.arr ty_int 1 [nV q]), some (.mp ktI [])]⟩ else ⟨[(3, .ptr 0 0), (9, .ref 1 1), (10, .int .i64 1), (11, .int .i64 1)], [some (.box [.ref 2 0, .ref 3 1]), some (.arr ty_int 1 [nV q]), some (.mp ktI (ents nV 0 [q])), some (.arr ty_int 1 [nV q])]⟩) (fun k => k ≤ 1) (fun k => 1 - k) [] _ 0 rfl (by simp [ktI]) (by simp) ?_
  intro k hk N hN
  rcases (show k = 0 ∨ k = 1 by omega) with rfl | rfl
  · simp (disch := omega) [-List.reduceReplicate]
    refine wcallH_mk [0] 1 [0, 2] (by simp) (by simp) (by simp) (by simp) (f_met_add_int_nil q) (by simp) fun _ _ => ?_
    simp (disch := omega) [-List.reduceReplicate]
    exact hN.out _ <| Nx.mk 1 (by simp) (by simp) (by simp)
  · simp (disch := omega) [-List.reduceReplicate]
def resL : Option (List Nat) → V
  | some w => .tup [.str (wordS w), .bool true]
  | none => .tup [.str [], .bool false]
def lsH (X : Option Ob) (fr by' : List Nat) (l : List Nat) : List (Option Ob) := [X, some (.box [.ref 4 0, .ref 5 l.length]), some (.arr ty_int 1 (fr.map nV)), some (.arr ty_uint8 1 (by'.map u8V)), some (.mp ktI (ents nV 0 l)), some (.arr ty_int 1 (l.map nV))]
theorem CameBy.add {fr by' : List Nat} {ws : List (List Nat)} (h : CameBy fr by' ws) {i c : Nat} {w : List Nat} (hw : ws[i]? = some w) (hc : c < 95) : CameBy (fr ++ [i]) (by' ++ [32 + c]) (ws ++ [w ++ [c]]) := by
  have hil := (List.getElem?_eq_some_iff.1 hw).1
  have h1 := h.len1
  have h2 := h.len2
  refine ⟨by simp [h1], by simp [h2], fun u hu => ?_, fun k u hk hu => ?_⟩
  · rw [List.getElem?_append_left (by omega)] at hu
    exact h.zero u hu
  · rcases Nat.lt_or_ge k ws.length with hkl | hkl
    · rw [List.getElem?_append_left hkl] at hu
      obtain ⟨j, d, v, g1, g2, g3, g4, g5, g6⟩ := h.back k u hk hu
      exact ⟨j, d, v, by rw [List.getElem?_append_left (by omega)]; exact g1, by rw [List.getElem?_append_left (by omega)]; exact g2, g3, by rw [List.getElem?_append_left (by omega)]; exact g4, g5, g6⟩
    · have hkk := (List.getElem?_eq_some_iff.1 hu).1
      simp at hkk
      have : k = ws.length := by omega
      subst this
      rw [List.getElem?_append_right (Nat.le_refl _), Nat.sub_self] at hu
      simp only [List.getElem?_cons_zero, Option.some.injEq] at hu
      refine ⟨i, c, w, by rw [← h1, List.getElem?_append_right (Nat.le_refl _), Nat.sub_self]; rfl, by rw [← h2, List.getElem?_append_right (Nat.le_refl _), Nat.sub_self]; rfl, hil, by rw [List.getElem?_append_left hil]; exact hw, hu.symm, hc⟩
/-- So long is a word at most. -/
def wlen (ws : List (List Nat)) : Prop := ∀ (k : Nat) (w : List Nat), ws[k]? = some w → w.length ≤ k
theorem f_least_int {a : Aut} (ha : a.ok) (hn : a.n ≤ 500) (r : Option (List Nat)) (hr : leastGo a.δ a.F (a.n + 1) 0 [0] [[]] = some r) :
    FnH Tryd.prog n_dfa_leastIint [1, 2] [nV 0, .fn (.func n_dfa_Least_1) [] [.ptr 0 0], .fn (.func n_dfa_Least_2) [] [.ptr 0 0]] [some (.box (Aut.c a))] (resL r) [some (.box (Aut.c a))] := by
  refine FnH.of_image mixed h_dfa_leastIint i_dfa_leastIint rfl fun ho hh => ?_
  unfold c_dfa_leastIint
  clear ho hh
  obtain ⟨X, hX⟩ : ∃ X, X = resL r := ⟨_, rfl⟩
  rw [← hX]
  have hnl : a.next.length = a.n := rfl
  have hD : ∀ q c, q < a.n → c < 95 → a.δ q c < a.n := fun q c hq hc => ha.lt hq hc
  have hfl : a.final.length = a.n := ha.fin
  simp (disch := omega) [-List.reduceReplicate, Aut.c]
  refine wcallH_mk [] 0 [1] (by simp) (by simp) (by simp) (by simp) (f_meet_int_ref 0) (by simp) fun _ _ => ?_
  simp (disch := omega) [-List.reduceReplicate]
  refine W_loop (fun (x : Nat × Nat × List Nat × List Nat × List Nat × List (List Nat)) => ⟨[(1, .fn (.func n_dfa_Least_1) [] [.ptr 0 0]), (2, .fn (.func n_dfa_Least_2) [] [.ptr 0 0]), (8, .ptr 1 0), (9, .ref 2 x.2.2.1.length), (10, .ref 3 x.2.2.1.length), (11, nV x.2.1)], lsH (some (.box (Aut.c a))) x.2.2.2.1 x.2.2.2.2.1 x.2.2.1⟩)
    (fun x => LInv a.δ 0 (fun q => q < a.n) x.2.1 0 x.2.2.1 x.2.2.2.2.2 ∧ x.2.1 ≤ x.2.2.1.length ∧ CameBy x.2.2.2.1 x.2.2.2.2.1 x.2.2.2.2.2 ∧ wlen x.2.2.2.2.2 ∧ leastGo a.δ a.F x.1 x.2.1 x.2.2.1 x.2.2.2.2.2 = some r) (fun x => x.1) [] _ (a.n + 1, 0, [0], [0], [0], [[]]) rfl (by simp [lsH, ents, Aut.c, ktI])
    ⟨LInv.begin ha.pos, by simp, ⟨rfl, rfl, fun w hw => by simpa using hw.symm, fun i w hi hw => by cases i with | zero => omega | succ i => simp at hw⟩, fun k w hw => by cases k with | zero => (simp at hw; subst hw; simp) | succ k => simp at hw, hr⟩ ?_
  rintro ⟨f, i, l, fr, by', ws⟩ ⟨hI, hil, hC, hwl, hgo⟩ N hN
  simp only at hI hil hC hwl hgo
  have hln := nodup_le a.n l hI.nodup hI.dom
  have hwsl := hI.len
  have hfrl := hC.len1
  have hbyl := hC.len2
  cases f with
  | zero => simp [leastGo] at hgo
  | succ f =>
  simp only [leastGo] at hgo
  rcases Nat.lt_or_ge i l.length with hlt | hge
  · obtain ⟨q, hq⟩ := get_lt hlt
    obtain ⟨w, hw⟩ := get_lt (l := ws) (k := i) (by omega)
    have hqn := hI.dom q (List.mem_of_getElem? hq)
    obtain ⟨b, hb⟩ := get_lt (l := a.final) (k := q) (by omega)
    have hF : a.F q = b := by simp [Aut.F, fin, hb]
    rw [hq, hw] at hgo
    simp only [Option.getD_some, hF] at hgo
    have hgood := f_dfa_Least_2 (a := a) hb
    have hw95 := (hI.run i q w hq hw).2
    replace hgo := hid hgo
    simp (disch := omega) [-List.reduceReplicate, lsH, hq, Aut.c]
    refine wcallH_mk [1] 1 [0] (by simp) (by simp) (by simp) (by simp [Aut.c]) hgood (by simp) fun _ _ => ?_
    simp (disch := omega) [-List.reduceReplicate, Aut.c]
    cases b with
    | true =>
      have hgo := hgo.out
      simp only [if_true, Option.some.injEq] at hgo
      subst hgo
      have hpath := f_dfa_path fr by' ws hC (by omega) i w hw hw95 (hwl i w hw)
      simp at hpath
      simp (disch := omega) [-List.reduceReplicate, hfrl, hbyl, hwsl]
      refine wcall_flat hpath rfl fun _ => ?_
      simp (disch := omega) [-List.reduceReplicate, Aut.c, hX, resL]
    | false =>
      have hgo := hgo.out
      rw [if_neg (by decide)] at hgo
      obtain ⟨T, hT⟩ : ∃ T, T = lrow (a.δ q) w 95 0 l ws := ⟨_, rfl⟩
      rw [← hT] at hgo
      replace hgo := hid hgo
      simp (disch := omega) [-List.reduceReplicate, hq, Aut.c]
      have hposq : pos eqB q l = some i := by
        refine pos_eqB ?_ hq
        intro j k x y hjk hx hy
        have := (List.pairwise_iff_getElem.1 (List.nodup_iff_pairwise_ne.1 hI.nodup)) j k (List.getElem?_eq_some_iff.1 hx).1 (List.getElem?_eq_some_iff.1 hy).1 hjk
        rw [(List.getElem?_eq_some_iff.1 hx).2, (List.getElem?_eq_some_iff.1 hy).2] at this
        simp [eqB, this]
      refine W_loop (fun (x : Nat × Nat × List Nat × List Nat × List Nat × List (List Nat)) => ⟨[(1, .fn (.func n_dfa_Least_1) [] [.ptr 0 0]), (2, .fn (.func n_dfa_Least_2) [] [.ptr 0 0]), (8, .ptr 1 0), (9, .ref 2 x.2.2.1.length), (10, .ref 3 x.2.2.1.length), (11, nV i), (12, nV x.2.1), (49, nV x.1)], lsH (some (.box (Aut.c a))) x.2.2.2.1 x.2.2.2.2.1 x.2.2.1⟩)
        (fun x => x.1 ≤ 95 ∧ LInv a.δ 0 (fun q => q < a.n) i x.1 x.2.2.1 x.2.2.2.2.2 ∧ CameBy x.2.2.2.1 x.2.2.2.2.1 x.2.2.2.2.2 ∧ wlen x.2.2.2.2.2 ∧ x.2.2.1[i]? = some q ∧ x.2.2.2.2.2[i]? = some w ∧ (pos eqB x.2.1 x.2.2.1).isSome = true ∧ lrow (a.δ q) w (95 - x.1) x.1 x.2.2.1 x.2.2.2.2.2 = T) (fun x => 95 - x.1) [] _ (0, q, l, fr, by', ws) rfl (by simp [lsH, Aut.c, hfrl, hbyl, hwsl]) ⟨by simp, hI, hC, hwl, hq, hw, by simp [hposq], by simp [hT]⟩ ?_
      rintro ⟨c, last, l', fr', by2, ws'⟩ ⟨hc, hI', hC', hwl', hq', hw', hp, hrow⟩ M hM
      simp only at hc hI' hC' hwl' hq' hw' hp hrow
      have hln' := nodup_le a.n l' hI'.nodup hI'.dom
      have hwsl' := hI'.len
      have hfrl' := hC'.len1
      have hbyl' := hC'.len2
      have hil' := (List.getElem?_eq_some_iff.1 hq').1
      rcases Nat.lt_or_ge c 95 with hc95 | hc95
      · obtain ⟨rr, t, hr1, hr2, hr3, hr4⟩ := ha.rows.dl (q := q) (c := c) (by omega) hc95
        have hδ : a.δ q c = t := hr3
        obtain ⟨m', hm'⟩ : ∃ m', 95 - c = m' + 1 := ⟨94 - c, by omega⟩
        have hm2 : 95 - (c + 1) = m' := by omega
        rw [hm'] at hrow
        simp only [lrow, hδ] at hrow
        have hstep := hI'.one hD hc95 hq' hw'
        rw [hδ] at hstep
        have hl1 := f_dfa_Least_1 (a := a) hr1 hr2
        replace hrow := hid hrow
        simp (disch := omega) [-List.reduceReplicate, lsH, hq', Aut.c]
        refine wcallH_mk [2] 1 [0] (by simp) (by simp) (by simp) (by simp [Aut.c]) hl1 (by simp) fun _ _ => ?_
        simp (disch := omega) [-List.reduceReplicate, Aut.c]
        by_cases htl : t = last
        · subst htl
          have hrow := hrow.out
          rw [if_pos hp] at hrow
          rw [if_pos hp, if_pos hp] at hstep
          simp (disch := omega) [-List.reduceReplicate]
          exact hM.out _ <| Nx.mk (c + 1, t, l', fr', by2, ws') (by simp [lsH, Aut.c]) ⟨by simp only; omega, hstep, hC', hwl', hq', hw', hp, by simpa [hm2] using hrow⟩ (by simp only; omega)
        · simp (disch := omega) [-List.reduceReplicate, htl]
          refine wcallH_mk [0] 1 [1, 4, 5] (by simp) (by simp) (by simp) (by simp) (f_met_add_int l' t (by omega)) (by simp) fun _ _ => ?_
          cases hpt : pos eqB t l' with
          | some j =>
            have hjl := pos_lt hpt
            obtain ⟨e1, e2⟩ := add_some hpt
            have hrow := hrow.out
            have hps : (pos eqB t l').isSome = true := by simp [hpt]
            rw [if_pos hps] at hrow
            rw [if_pos hps, if_pos hps] at hstep
            have hne : ¬j = l'.length := by omega
            simp (disch := omega) [-List.reduceReplicate, e1, e2, hfrl', hwsl', hne, Aut.c]
            exact hM.out _ <| Nx.mk (c + 1, t, l', fr', by2, ws') (by simp [lsH, Aut.c]) ⟨by simp only; omega, hstep, hC', hwl', hq', hw', hps, by simpa [hm2] using hrow⟩ (by simp only; omega)
          | none =>
            obtain ⟨e1, e2⟩ := add_none hpt
            have hrow := hrow.out
            have hps : ¬(pos eqB t l').isSome = true := by simp [hpt]
            rw [if_neg hps] at hrow
            rw [if_neg hps, if_neg hps] at hstep
            have hC2 := hC'.add hw' hc95
            have hwl2 : wlen (ws' ++ [w ++ [c]]) := fun k u hu => by
              rcases Nat.lt_or_ge k ws'.length with hk | hk
              · rw [List.getElem?_append_left hk] at hu; exact hwl' k u hu
              · have hkk := (List.getElem?_eq_some_iff.1 hu).1
                simp at hkk
                have : k = ws'.length := by omega
                subst this
                rw [List.getElem?_append_right (Nat.le_refl _), Nat.sub_self] at hu
                simp only [List.getElem?_cons_zero, Option.some.injEq] at hu
                subst hu
                have := hwl' i w hw'
                simp
                omega
            simp (disch := omega) [-List.reduceReplicate, e1, e2, hfrl', hwsl', hbyl', Aut.c]
            exact hM.out _ <| Nx.mk (c + 1, t, l' ++ [t], fr' ++ [i], by2 ++ [32 + c], ws' ++ [w ++ [c]]) (by simp [lsH, Aut.c]) ⟨by simp only; omega, hstep, hC2, hwl2, by rw [List.getElem?_append_left hil']; exact hq', by rw [List.getElem?_append_left (by omega)]; exact hw', by simp [pos_snoc hpt], by simpa [hm2] using hrow⟩ (by simp only; omega)
      · have hc0 : c = 95 := by omega
        subst hc0
        simp only [Nat.sub_self, lrow] at hrow
        subst hrow
        have hgo := hgo.out
        simp (disch := omega) [-List.reduceReplicate, lsH, Aut.c]
        exact hN.out _ <| Nx.mk (f, i + 1, l', fr', by2, ws') (by simp [lsH, Aut.c]) ⟨hI'.next hil', by simp only; omega, hC', hwl', hgo⟩ (by simp only; omega)
  · have : i = l.length := by omega
    rw [List.getElem?_eq_none (by omega)] at hgo
    simp only [Option.some.injEq] at hgo
    subst hgo
    simp (disch := omega) [-List.reduceReplicate, lsH, Aut.c, hX, resL]
end Go.Abs
