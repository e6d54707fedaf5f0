/-
  DfaMay's function answers true. No condition.
-/
import Derived.Test.YtpblinccnkidfaaDoorD22
set_option linter.unusedVariables false
set_option linter.unusedSimpArgs false
set_option maxHeartbeats 1000000
set_option maxRecDepth 100000
namespace Go.Abs
open Go.Proofs Go.Aut
attribute [-simp] getElem?_pos Option.not_isSome List.map_map
theorem f_ref11_May (nx : List (List Int)) (fi : List Bool) : Fn Tryd.prog n_ref11_May [.strct (autoC nx fi)] (.bool (mayZ nx fi)) := by
  refine Fn.of_image mixed h_ref11_May i_ref11_May rfl fun ho => ?_
  unfold c_ref11_May
  simp only [oks, ok, and_true] at ho
  obtain ⟨R, hR⟩ : ∃ R, R = mayZ nx fi := ⟨_, rfl⟩
  have hl1 : nx.length ≤ 140737488355328 := by have := ho; simp [autoC, oks, ok] at this; exact this.1.1
  have hl2 : ∀ r ∈ nx, r.length ≤ 140737488355328 := fun r hr => by
    have := ho; simp [autoC, oks, ok] at this
    have := oks_mem this.1.2 (List.mem_map_of_mem hr)
    simp [ok] at this; exact this.1
  clear ho
  rw [← hR]
  have go : ((1 ≤ nx.length ∧ nx.length ≤ 500) ∧ fi.length = nx.length) → nx.all (rowOK nx.length) = R := fun h => by rw [hR, mayZ, decide_eq_true h.1.1, decide_eq_true h.1.2, decide_eq_true h.2]; rfl
  have no : ¬((1 ≤ nx.length ∧ nx.length ≤ 500) ∧ fi.length = nx.length) → R = false := fun h => by rw [hR, mayZ]; simp; omega
  clear hR
  replace go := hid go
  replace no := hid no
  by_cases h1 : nx = []
  · simp (disch := omega) [-List.reduceReplicate, autoC, h1]
    rw [no.out (by simp [h1])]
  · have h0 : 0 < nx.length := List.length_pos_iff.2 h1
    by_cases h2 : 500 < nx.length
    · simp (disch := omega) [-List.reduceReplicate, autoC, h1, h2]
      rw [no.out (by omega)]
    · by_cases h3 : fi.length = nx.length
      · have hg := go.out ⟨⟨by omega, by omega⟩, h3⟩
        have h3' : (fi.length : Int) = (nx.length : Int) := by omega
        clear go no
        simp (disch := omega) [-List.reduceReplicate, autoC, h1, h2, h3']
        refine W_loop (fun k : Nat => ⟨[(1, .ptr 0 0), (3, .int .i64 nx.length), (4, nV k)], [some (.box (autoC nx fi))]⟩) (fun k => k ≤ nx.length ∧ (nx.drop k).all (rowOK nx.length) = R) (fun k => nx.length - k) [] _ 0 rfl (by simp [autoC]) (by simp [hg]) ?_
        rintro k ⟨hk, hi⟩ N hN
        rcases place nx k hk with ⟨he, hd⟩ | ⟨hlt, x, hx, hd⟩ <;> rw [hd] at hi
        · simp at hi
          subst hi
          simp (disch := omega) [-List.reduceReplicate, he]
        · have hxl := hl2 x (List.mem_of_getElem? hx)
          simp only [List.all_cons] at hi
          by_cases h95 : x.length = 95
          · replace hi := hid hi
            simp (disch := omega) [-List.reduceReplicate, hx, h95, autoC]
            refine W_loop (fun j : Nat => ⟨[(1, .ptr 0 0), (3, .int .i64 nx.length), (4, nV k), (5, nV j)], [some (.box (autoC nx fi))]⟩) (fun j => j ≤ x.length ∧ x.all (cellOK nx.length) = (x.drop j).all (cellOK nx.length)) (fun j => x.length - j) [] _ 0 rfl (by simp [autoC]) (by simp) ?_
            rintro j ⟨hj, hi2⟩ M hM
            rcases place x j hj with ⟨he, hd2⟩ | ⟨hlt2, y, hy, hd2⟩ <;> rw [hd2] at hi2
            · have hi := hi.out
              rw [rowOK, decide_eq_true (by omega), hi2] at hi
              have hj95 : j = 95 := by omega
              simp (disch := omega) [-List.reduceReplicate, hj95]
              exact hN.out _ <| Nx.mk (k + 1) (by simp [autoC]) ⟨by omega, by simpa using hi⟩ (by omega)
            · simp only [List.all_cons] at hi2
              replace hi2 := hid hi2
              have bad : cellOK nx.length y = false → R = false := fun h => by have := hi.out; rw [rowOK, hi2.out, h] at this; simpa using this.symm
              have fin : cellOK nx.length y = true → ∀ τ : St, τ.nrm [1, 3, 4, 5] = ⟨[(1, .ptr 0 0), (3, .int .i64 nx.length), (4, nV k), (5, .int .i64 ((j : Int) + 1))], [some (.box (autoC nx fi))]⟩ → M τ := fun h τ hτ => hM.out τ <| Nx.mk (j + 1) (by simpa using hτ) ⟨by omega, by have := hi2.out; rwa [h, Bool.true_and] at this⟩ (by omega)
              replace bad := hid bad
              replace fin := hid fin
              have hj95 : j < 95 := by omega
              by_cases hy0 : y < 0
              · simp (disch := omega) [-List.reduceReplicate, autoC, hx, hy, zV, hy0]
                rw [bad.out (by simp [cellOK]; omega)]
              · by_cases hyn : (nx.length : Int) ≤ y
                · simp (disch := omega) [-List.reduceReplicate, autoC, hx, hy, zV, hy0, hyn]
                  rw [bad.out (by simp [cellOK]; omega)]
                · simp (disch := omega) [-List.reduceReplicate, autoC, hx, hy, zV, hy0, hyn]
                  exact fin.out (by simp [cellOK]; omega) _ (by simp [autoC])
          · rw [rowOK, decide_eq_false h95] at hi
            simp only [Bool.false_and] at hi
            simp (disch := omega) [-List.reduceReplicate, hx, h95, autoC]
            rw [← hi]
      · have h3' : ¬(fi.length : Int) = (nx.length : Int) := by omega
        simp (disch := omega) [-List.reduceReplicate, autoC, h1, h2, h3']
        rw [no.out (by omega)]
def emptyA : Aut := ⟨[List.replicate 95 0], [false]⟩
def fullA : Aut := ⟨[List.replicate 95 0], [true]⟩
theorem single_ok (b : Bool) : (Aut.mk [List.replicate 95 0] [b]).ok := ⟨by simp [Aut.n], by simp [Aut.n], fun r hr => by
  simp only [List.mem_singleton] at hr
  subst hr
  refine ⟨by simp, fun x hx => ?_⟩
  rw [List.mem_replicate] at hx
  simp [Aut.n, hx.2]⟩
theorem single_acc (b : Bool) : ∀ s : Str, accS (Aut.mk [List.replicate 95 0] [b]) 0 s = (s.all sgn && b)
  | [] => by simp [accS, Aut.F, fin]
  | c :: s => by
    have hδ : (Aut.mk [List.replicate 95 0] [b]).δ 0 (c.toNat - 32) = 0 := by
      simp only [Aut.δ, dl, List.getElem?_cons_zero, Option.getD_some]
      cases h : (List.replicate 95 0)[c.toNat - 32]? with
      | none => rfl
      | some x => have := List.mem_of_getElem? h; rw [List.mem_replicate] at this; simp [this.2]
    simp only [accS, hδ, single_acc b s, List.all_cons]
    cases sgn c <;> simp
theorem single_c (b : Bool) : V.strct (autoC [List.replicate 95 0] [b]) = V.strct (Aut.c (Aut.mk [List.replicate 95 0] [b])) := by
  simp [autoC, Aut.c, zV, rowN, nextN, finN, -List.reduceReplicate]
theorem f_law11_DfaMay (nx : List (List Int)) (fi : List Bool) (l : List (List Int)) (ff : List Bool) (s : Str) : FnE Tryd.prog n_law11_DfaMay [.strct (autoC nx fi), .seq 1 (l.map rowZ), finN ff, .str s] (.bool true) := by
  refine FnE.of_image mixed h_law11_DfaMay i_law11_DfaMay rfl fun ho => ?_
  unfold c_law11_DfaMay
  clear ho
  obtain ⟨hg, hg5, _⟩ := goodA_ok l ff
  have hgood := f_ref11_Good l ff
  obtain ⟨g, hgd⟩ : ∃ g, g = goodA l ff := ⟨_, rfl⟩
  rw [← hgd] at hg hg5 hgood
  have hfew := f_law11_few s
  have hsl : (s.take 10).length ≤ 10 := by simp; omega
  obtain ⟨s', hs'⟩ : ∃ s', s' = s.take 10 := ⟨_, rfl⟩
  rw [← hs'] at hfew hsl
  have hmg := f_dfa_May_ok hg (by omega)
  have hme := f_dfa_May_ok (single_ok false) (by decide)
  have hmf := f_dfa_May_ok (single_ok true) (by decide)
  have hag := f_dfa_Accepts hg (by omega) s'
  have hae := f_dfa_Accepts (single_ok false) (by decide) s'
  have haf := f_dfa_Accepts (single_ok true) (by decide) s'
  have hfg := f_ref11_From hg (by omega) 0 hg.pos s'
  have hE := f_dfa_Empty
  have hF := f_dfa_Full
  rw [single_acc] at hae haf
  rw [single_c] at hE hF
  obtain ⟨ea, hea⟩ : ∃ ea, ea = Aut.mk [List.replicate 95 0] [false] := ⟨_, rfl⟩
  obtain ⟨fa', hfa⟩ : ∃ fa', fa' = Aut.mk [List.replicate 95 0] [true] := ⟨_, rfl⟩
  rw [← hea] at hme hae hE
  rw [← hfa] at hmf haf hF
  obtain ⟨A, hA⟩ : ∃ A, A = accS g 0 s' := ⟨_, rfl⟩
  rw [← hA] at hag hfg
  obtain ⟨SG, hSG⟩ : ∃ SG, SG = s'.all sgn := ⟨_, rfl⟩
  rw [← hSG] at hae haf
  simp [Aut.c] at hgood hmg hme hmf hag hae haf hfg hE hF
  obtain ⟨N8, hcase⟩ : ∃ N8 : List (List Int), (8 < nx.length ∧ N8 = nx.take 8) ∨ (¬8 < nx.length ∧ N8 = nx) := by
    by_cases h : 8 < nx.length
    · exact ⟨_, .inl ⟨h, rfl⟩⟩
    · exact ⟨_, .inr ⟨h, rfl⟩⟩
  rcases hcase with ⟨h8, hN8⟩ | ⟨h8, hN8⟩
  all_goals
    simp (disch := omega) [-List.reduceReplicate, autoC, h8]
    try rw [← List.map_take]
    rw [← hN8]
    clear hN8
    have hm1 := f_dfa_May N8 fi
    have hm2 := f_ref11_May N8 fi
    obtain ⟨MM, hMM⟩ : ∃ MM, MM = mayZ N8 fi := ⟨_, rfl⟩
    rw [← hMM] at hm1 hm2
    simp [autoC] at hm1 hm2
    refine wcall_flat hm1 rfl fun _ => ?_
    simp (disch := omega) [-List.reduceReplicate]
    refine wcall_flat hm2 rfl fun _ => ?_
    simp (disch := omega) [-List.reduceReplicate]
    refine wcall_pure hgood (by simp) fun _ => ?_
    simp (disch := omega) [-List.reduceReplicate]
    refine wcall_flat hfew rfl fun _ => ?_
    simp (disch := omega) [-List.reduceReplicate]
    refine W_loop (fun (x : Nat × Bool) => ⟨[(3, .str s'), (9, .int .i64 (err01 MM)), (10, .bool MM), (11, .ptr 0 0), (12, .bool x.2), (13, nV x.1)], [some (.box (Aut.c g))]⟩) (fun x => x.1 ≤ s'.length ∧ (x.2 && (s'.drop x.1).all sgn) = SG) (fun x => s'.length - x.1) [] _ (0, true) rfl (by simp [Aut.c]) ⟨by simp, by simp [hSG]⟩ ?_
    rintro ⟨k, b⟩ ⟨hk, hi⟩ N hN
    simp only at hk hi
    rcases place s' k hk with ⟨he, hd⟩ | ⟨hlt, c, hx, hd⟩ <;> rw [hd] at hi
    · simp at hi
      subst hi
      clear hSG hN hd
      simp (disch := omega) [-List.reduceReplicate, he, Aut.c]
      refine wcall_pure hE (by simp) fun _ => ?_
      simp (disch := omega) [-List.reduceReplicate]
      refine wcall_pure hF (by simp) fun _ => ?_
      simp (disch := omega) [-List.reduceReplicate]
      cases MM
      all_goals
        simp (disch := omega) [-List.reduceReplicate, err01]
        refine wcall_flat hmg rfl fun _ => ?_
        simp (disch := omega) [-List.reduceReplicate]
        refine wcall_flat hme rfl fun _ => ?_
        simp (disch := omega) [-List.reduceReplicate]
        refine wcall_flat hmf rfl fun _ => ?_
        simp (disch := omega) [-List.reduceReplicate]
        refine wcallD_flat hag rfl ?_
        simp (disch := omega) [-List.reduceReplicate]
        refine wcallD_flat hfg rfl ?_
        simp (disch := omega) [-List.reduceReplicate]
        refine wcallD_flat hae rfl ?_
        simp (disch := omega) [-List.reduceReplicate]
        refine wcallD_flat haf rfl ?_
        simp (disch := omega) [-List.reduceReplicate]
        refine wcallD_flat f_law11_lives rfl ?_
        simp (disch := omega) [-List.reduceReplicate]
    · simp only [List.all_cons] at hi
      have fin : ∀ (b' : Bool), b' = (b && sgn c) → ∀ τ : St, τ.nrm [3, 9, 10, 11, 12, 13] = ⟨[(3, .str s'), (9, .int .i64 (err01 MM)), (10, .bool MM), (11, .ptr 0 0), (12, .bool b'), (13, .int .i64 ((k : Int) + 1))], [some (.box (Aut.c g))]⟩ → N τ := fun b' hb τ hτ =>
        hN.out τ <| Nx.mk (k + 1, b') (by simpa using hτ) ⟨by simp only; omega, by rw [hb, ← hi, Bool.and_assoc]⟩ (by simp only; omega)
      replace fin := hid fin
      clear hi
      simp (disch := omega) [-List.reduceReplicate, hx, Aut.c]
      refine BrK.mk (fun hb => ?_) (fun hb => ?_)
      · subst hb
        simp (disch := omega) [-List.reduceReplicate, hx]
        refine BrKd.mk (fun h1 => ?_) (fun h1 => ?_)
        · simp (disch := omega) [-List.reduceReplicate, hx]
          exact fin.out (decide (c.toNat ≤ 126)) (by simp [sgn, h1]) _ (by simp [Aut.c])
        · simp (disch := omega) [-List.reduceReplicate, hx]
          exact fin.out false (by simp [sgn]; omega) _ (by simp [Aut.c])
      · subst hb
        simp (disch := omega) [-List.reduceReplicate]
        exact fin.out false (by simp) _ (by simp [Aut.c])
end Go.Abs
