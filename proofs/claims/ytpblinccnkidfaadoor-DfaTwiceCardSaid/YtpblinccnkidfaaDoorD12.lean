/-
  What is reached from a set by a sign. No condition.
-/
import Derived.Test.YtpblinccnkidfaaDoorD11
set_option linter.unusedVariables false
set_option linter.unusedSimpArgs false
set_option maxHeartbeats 1000000
set_option maxRecDepth 100000
namespace Go.Abs
open Go.Proofs Go.Aut
attribute [-simp] getElem?_pos Option.not_isSome List.map_map
def rowW (r : List Nat) : V := .strct (r.map u64V)
def stepsV (t : List (List Nat)) : V := .seq 760 (t.map rowW)
/-- The set in a row of steps, of a sign. -/
def setAt (t : List (List Nat)) (sign q : Nat) : List Nat := match t[q]? with
  | some r => (r.drop (8 * sign)).take 8
  | none => zeroW
structure stepsOK (t : List (List Nat)) : Prop where
  len : t.length ≤ 512
  rows : ∀ r ∈ t, r.length = 760 ∧ ∀ w ∈ r, w < 18446744073709551616
theorem stepsOK.set {t : List (List Nat)} (h : stepsOK t) {sign : Nat} (hs : sign < 95) (q : Nat) : wOK (setAt t sign q) := by
  unfold setAt
  split
  · rename_i r hr
    obtain ⟨h1, h2⟩ := h.rows r (List.mem_of_getElem? hr)
    exact ⟨by simp; omega, fun w hw => h2 w (List.mem_of_mem_drop (List.mem_of_mem_take hw))⟩
  · exact wOK_zero
theorem vsubU64 {w : Nat} (h0 : w ≠ 0) (h : w < 18446744073709551616) : vint .sub .u64 (w : Int) 1 = some (.int .u64 ((w - 1 : Nat) : Int)) := by
  simp only [vint]
  rw [wrapU64 (by omega) (by omega)]
  congr 2
  omega
theorem f_steps_of (t : List (List Nat)) (ht : stepsOK t) (s : List Nat) (hs : wOK s) (sign : Nat) (hsg : sign < 95) (hst : ∀ p < 512, hasW s p = true → p < t.length) :
    Fn Tryd.prog n_dfa_steps_of [stepsV t, .strct (s.map u64V), nV sign] (.strct ((ofW (setAt t sign) s).map u64V)) := by
  refine Fn.of_imageE mixed h_dfa_steps_of i_dfa_steps_of rfl fun ho => ?_
  unfold c_dfa_steps_of
  simp only [oks, ok, and_true] at ho
  clear ho
  have htl := ht.len
  have hsl := hs.len
  obtain ⟨R, hR⟩ : ∃ R, R = ofW (setAt t sign) s := ⟨_, rfl⟩
  have hfok : ∀ q, wOK (setAt t sign q) := fun q => ht.set hsg q
  have hRl : R.length = 8 := by rw [hR]; exact (ofW_spec hs fun q _ => hfok q).1.len
  rw [← hR]
  have h8 : ∀ x : List Nat, x.length = 8 → List.take 8 (x.map u64V) = x.map u64V := fun x hx => List.take_of_length_le (by simp; omega)
  have h8s := h8 s hsl
  simp (disch := omega) [-List.reduceReplicate, stepsV, hsl, h8s]
  refine W_loop (fun (x : Nat × List Nat) => ⟨[(0, stepsV t), (2, nV sign), (6, .ptr 0 0), (7, .ptr 1 0), (10, .strct (s.map u64V)), (11, nV x.1)], [some (.box (zeroW.map u64V)), some (.box (x.2.map u64V))]⟩)
    (fun x => x.1 ≤ 8 ∧ wOK x.2 ∧ ofGo8 (setAt t sign) x.1 (s.drop x.1) x.2 = R) (fun x => 8 - x.1) [] _ (0, zeroW) rfl (by simp [-List.reduceReplicate, zero8, stepsV]) ⟨by simp, wOK_zero, by simp [hR, ofW]⟩ ?_
  rintro ⟨i, out⟩ ⟨hi8, hout, hi⟩ N hN
  simp only at hi8 hout hi
  rcases Nat.lt_or_ge i 8 with hlt | hge
  · obtain ⟨w, hw⟩ := get_lt (l := s) (k := i) (by omega)
    have hwl := hs.lt w (List.mem_of_getElem? hw)
    have hgw : getN s i = w := by simp [getN, hw]
    rw [drop_cons hw] at hi
    simp only [ofGo8] at hi
    obtain ⟨T, hT⟩ : ∃ T, T = bitsGo (fun j => setAt t sign (64 * i + j)) (w + 1) w out := ⟨_, rfl⟩
    have hTok : wOK T := by rw [hT]; exact (bitsGo_spec (fun j _ => hfok _) (w + 1) w out hout hwl (by omega)).1
    rw [← hT] at hi
    replace hi := hid hi
    have hc := take_one_drop (l := s.map u64V) (j := i) (v := .int .u64 w) (by rw [List.getElem?_map, hw]; rfl)
    simp (disch := omega) [-List.reduceReplicate, stepsV, hc, hsl]
    refine W_loop (fun (x : Nat × Nat × List Nat) => ⟨[(0, stepsV t), (2, nV sign), (6, .ptr 0 0), (7, .ptr 1 0), (8, nV i), (9, .int .u64 x.2.1), (10, .strct (s.map u64V)), (11, nV i)], [some (.box (zeroW.map u64V)), some (.box (x.2.2.map u64V))]⟩)
      (fun x => wOK x.2.2 ∧ x.2.1 < 18446744073709551616 ∧ x.2.1 ≤ x.1 ∧ (∀ j < 64, x.2.1.testBit j = true → w.testBit j = true) ∧ bitsGo (fun j => setAt t sign (64 * i + j)) x.1 x.2.1 x.2.2 = T) (fun x => x.1) [] _ (w + 1, w, out) rfl (by simp [stepsV]) ⟨hout, hwl, by simp, fun _ _ h => h, hT.symm⟩ ?_
    rintro ⟨fu, v, o⟩ ⟨hok, hvl, hvf, hsub, hb⟩ M hM
    simp only at hok hvl hvf hsub hb
    by_cases h0 : v = 0
    · subst h0
      have : o = T := by
        cases fu with
        | zero => simpa [bitsGo] using hb
        | succ fu => simpa [bitsGo] using hb
      subst this
      simp (disch := omega) [-List.reduceReplicate, stepsV]
      exact hN.out _ <| Nx.mk (i + 1, o) (by simp [stepsV]) ⟨by simp only; omega, hok, hi.out⟩ (by simp only; omega)
    · cases fu with
      | zero => omega
      | succ fu =>
      simp only [bitsGo, if_neg h0] at hb
      obtain ⟨g1, g2, g3⟩ := tz_spec h0 hvl
      have hp : 64 * i + tz v < t.length := hst _ (by omega) (by rw [hasW, show (64 * i + tz v) / 64 = i by omega, show (64 * i + tz v) % 64 = tz v by omega, hgw]; exact hsub _ g1 g2)
      obtain ⟨row, hrow⟩ := get_lt (l := t) (k := 64 * i + tz v) hp
      have hset : setAt t sign (64 * i + tz v) = (row.drop (8 * sign)).take 8 := by simp [setAt, hrow]
      have hfo := hfok (64 * i + tz v)
      have hj := f_set_join_1 o _ row (8 * sign) hok hfo hset.symm
      have htz := f_bits_TrailingZeros64 h0 hvl
      have hsb := vsubU64 h0 hvl
      have hand := vand64 hvl (show v - 1 < 18446744073709551616 by omega)
      have hlt2 := and_pred_lt h0
      obtain ⟨z, hz⟩ : ∃ z, z = tz v := ⟨_, rfl⟩
      rw [← hz] at g1 g2 g3 hp hrow hset hfo hj htz hb
      obtain ⟨v', hv'⟩ : ∃ v', v' = v &&& (v - 1) := ⟨_, rfl⟩
      rw [← hv'] at hand hlt2 hb g3
      obtain ⟨v1, hv1⟩ : ∃ v1, v1 = v - 1 := ⟨_, rfl⟩
      rw [← hv1] at hand hsb
      have hi1 : ((64 : Int) * i + z).toNat = 64 * i + z := by omega
      have hs1 : sign * 8 = 8 * sign := Nat.mul_comm _ _
      simp only [u64V] at htz
      simp (disch := omega) [-List.reduceReplicate, stepsV, h0]
      refine wcall_flat htz rfl fun _ => ?_
      simp (disch := omega) [-List.reduceReplicate, hi1, hrow, rowW, hs1]
      refine wcallH_mk [0, 1] 1 [1] (by simp) (by simp) (by simp) (by simp) hj (by simp) fun _ _ => ?_
      simp (disch := omega) [-List.reduceReplicate, hsb, hand]
      exact hM.out _ <| Nx.mk (fu, v', orW o (setAt t sign (64 * i + z))) (by simp [stepsV]) ⟨hok.or hfo, by simp only; omega, by simp only; omega, fun j hj hb => hsub j hj (by rw [g3] at hb; simp at hb; exact hb.1), hb⟩ (by simp only; omega)
  · have : i = 8 := by omega
    subst this
    have hd : s.drop 8 = [] := List.drop_of_length_le (by omega)
    rw [hd] at hi
    simp only [ofGo8] at hi
    subst hi
    have h8o := h8 out hRl
    simp (disch := omega) [-List.reduceReplicate, stepsV, hRl, h8o, zeroW]
end Go.Abs
