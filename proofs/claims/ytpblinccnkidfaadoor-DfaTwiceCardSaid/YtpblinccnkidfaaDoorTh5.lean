/-
  What a net's steps and borders are, plainly. No condition.
-/
import Derived.Test.YtpblinccnkidfaaDoorD15
set_option linter.unusedVariables false
set_option linter.unusedSimpArgs false
set_option maxHeartbeats 1000000
namespace Go.Abs
open Go.Aut
attribute [-simp] getElem?_pos Option.not_isSome List.map_map
theorem mixW_at {off : Nat} {r t : List Nat} (hr : off + 8 ≤ r.length) (ht : t.length = 8) (k : Nat) : (mixW 8 off r t)[k]? = if off ≤ k ∧ k < off + 8 then (orW ((r.drop off).take 8) t)[k - off]? else r[k]? := by
  have h8 := or8_len hr ht
  have hto : (orW ((r.drop off).take 8) t).take 8 = orW ((r.drop off).take 8) t := List.take_of_length_le (by omega)
  rw [mixW, hto]
  rcases Nat.lt_or_ge k off with h1 | h1
  · rw [List.getElem?_append_left (by simp; omega), if_neg (by omega), List.getElem?_take, if_pos h1]
  · rw [List.getElem?_append_right (by simp; omega)]
    have e : k - (r.take off).length = k - off := by simp; omega
    rw [e]
    rcases Nat.lt_or_ge k (off + 8) with h2 | h2
    · rw [List.getElem?_append_left (by rw [h8]; omega), if_pos ⟨h1, h2⟩]
    · rw [List.getElem?_append_right (by rw [h8]; omega), if_neg (by omega), List.getElem?_drop, h8]
      congr 1
      omega
theorem mixW_slice {a b : Nat} {r t : List Nat} (hr : 8 * a + 8 ≤ r.length) (hb : 8 * b + 8 ≤ r.length) (ht : t.length = 8) : ((mixW 8 (8 * a) r t).drop (8 * b)).take 8 = if a = b then orW ((r.drop (8 * b)).take 8) t else (r.drop (8 * b)).take 8 := by
  have h8 := or8_len hr ht
  refine List.ext_getElem? fun k => ?_
  rw [List.getElem?_take]
  rcases Nat.lt_or_ge k 8 with hk | hk
  · rw [if_pos hk, List.getElem?_drop, mixW_at hr ht]
    by_cases hab : a = b
    · subst hab
      rw [if_pos (by omega), if_pos rfl]
      congr 1
      omega
    · rw [if_neg (by omega), if_neg hab, List.getElem?_take, if_pos hk, List.getElem?_drop]
  · rw [if_neg (by omega)]
    split
    · rename_i hab
      subst hab
      rw [List.getElem?_eq_none (by omega)]
    · rw [List.getElem?_take, if_neg (by omega)]
theorem setAt_join {n : Nat} {t : List (List Nat)} (ht : tOK n t) {ws : List Nat} (hws : wOK ws) {i c sign q : Nat} (hi : i < n) (hc : 32 ≤ c ∧ c < 127) (hs : sign < 95) : setAt (joinAt ws i t c) sign q = if q = i ∧ c = sign + 32 then orW (setAt t sign q) ws else setAt t sign q := by
  obtain ⟨r, hr⟩ : ∃ r, t[i]? = some r := ⟨_, List.getElem?_eq_getElem (by rw [ht.len]; exact hi)⟩
  obtain ⟨h1, h2⟩ := ht.rows r (List.mem_of_getElem? hr)
  have hj : joinAt ws i t c = t.set i (mixW 8 (8 * (c - 32)) r ws) := by simp [joinAt, hr]
  rw [hj]
  by_cases hq : q = i
  · subst hq
    have e1 : setAt t sign q = (r.drop (8 * sign)).take 8 := by simp [setAt, hr]
    have e2 : setAt (t.set q (mixW 8 (8 * (c - 32)) r ws)) sign q = ((mixW 8 (8 * (c - 32)) r ws).drop (8 * sign)).take 8 := by
      simp only [setAt]
      rw [List.getElem?_set_self (by rw [ht.len]; exact hi)]
    rw [e2, e1, mixW_slice (by omega) (by omega) hws.len]
    by_cases hcs : c = sign + 32
    · rw [if_pos (by omega), if_pos ⟨rfl, hcs⟩]
    · rw [if_neg (by omega), if_neg (fun h => hcs h.2)]
  · rw [if_neg (fun h => hq h.1)]
    simp only [setAt]
    rw [List.getElem?_set_ne (fun e => hq e.symm)]
theorem setAt_ok {n : Nat} {t : List (List Nat)} (ht : tOK n t) {sign : Nat} (hs : sign < 95) (q : Nat) : wOK (setAt t sign q) := by
  unfold setAt
  split
  · rename_i r hr
    obtain ⟨h1, h2⟩ := ht.rows r (List.mem_of_getElem? hr)
    exact ⟨by simp; omega, fun w hw => h2 w (List.mem_of_mem_drop (List.mem_of_mem_take hw))⟩
  · exact wOK_zero
theorem join_fold {n : Nat} {ws : List Nat} (hws : wOK ws) {i sign q : Nat} (hi : i < n) (hs : sign < 95) : ∀ (m c : Nat) (t : List (List Nat)), tOK n t → 32 ≤ c → c + m ≤ 127 →
    tOK n ((List.range' c m).foldl (joinAt ws i) t) ∧ ∀ p < 512, hasW (setAt ((List.range' c m).foldl (joinAt ws i) t) sign q) p = (hasW (setAt t sign q) p || (decide (q = i ∧ c ≤ sign + 32 ∧ sign + 32 < c + m) && hasW ws p))
  | 0, c, t, ht, _, _ => ⟨ht, fun p hp => by simp; intro _ _ _; omega⟩
  | m + 1, c, t, ht, hc, hm => by
    have ht2 := ht.join hws (i := i) (c := c) (by omega)
    obtain ⟨g1, g2⟩ := join_fold hws hi hs m (c + 1) _ ht2 (by omega) (by omega)
    simp only [List.range'_succ, List.foldl_cons]
    refine ⟨g1, fun p hp => ?_⟩
    rw [g2 p hp, setAt_join ht hws hi (by omega) hs]
    by_cases hq : q = i
    · subst hq
      by_cases hcs : c = sign + 32
      · rw [if_pos ⟨rfl, hcs⟩, hasW_or (setAt_ok ht hs q) hws hp, decide_eq_false (by omega), decide_eq_true (by omega)]
        simp
      · rw [if_neg (fun h => hcs h.2)]
        congr 2
        exact decide_eq_decide.2 (by omega)
    · rw [if_neg (fun h => hq h.1), decide_eq_false (fun h => hq h.1), decide_eq_false (fun h => hq h.1)]
/-- Does an edge take a sign? -/
def takesE (e : NEdge) (sign : Nat) : Bool := decide (loE e ≤ sign + 32 ∧ sign + 32 ≤ hiE e)
theorem step_fold {N : Net} (h : N.ok) {sign q : Nat} (hs : sign < 95) : ∀ (es : List NEdge) (t : List (List Nat)), (∀ e ∈ es, e ∈ N.edges) → tOK N.n t →
    tOK N.n (es.foldl (stepE N) t) ∧ ∀ p < 512, hasW (setAt (es.foldl (stepE N) t) sign q) p = true ↔ (hasW (setAt t sign q) p = true ∨ ∃ e ∈ es, e.fr = q ∧ takesE e sign = true ∧ hasW (closedS N e.to) p = true)
  | [], t, _, ht => ⟨ht, fun p hp => by simp⟩
  | e :: es, t, hes, ht => by
    obtain ⟨g1, g2, g3, g4⟩ := h.ends e (hes e (by simp))
    have hlo : 32 ≤ loE e := by unfold loE; split <;> omega
    have hhi : hiE e ≤ 126 := by unfold hiE; split <;> omega
    have key : tOK N.n (stepE N t e) ∧ ∀ p < 512, hasW (setAt (stepE N t e) sign q) p = (hasW (setAt t sign q) p || (decide (q = e.fr ∧ loE e ≤ sign + 32 ∧ sign + 32 < loE e + (hiE e + 1 - loE e)) && hasW (closedS N e.to) p)) := by
      rcases Nat.lt_or_ge (hiE e + 1) (loE e) with hgt | hle
      · have h0 : hiE e + 1 - loE e = 0 := by omega
        rw [stepE, h0]
        refine ⟨ht, fun p hp => ?_⟩
        rw [decide_eq_false (by omega)]
        simp
      · exact join_fold (closedS_ok h g2) g1 hs _ _ t ht hlo (by omega)
    obtain ⟨f1, f2⟩ := step_fold h hs es _ (fun e he => hes e (by simp [he])) key.1
    refine ⟨f1, fun p hp => ?_⟩
    rw [List.foldl_cons, f2 p hp, key.2 p hp, Bool.or_eq_true, Bool.and_eq_true, decide_eq_true_eq, or_assoc]
    refine or_congr_right ?_
    constructor
    · rintro (⟨⟨h1, h2, h3⟩, h4⟩ | ⟨e', h1, h2⟩)
      · exact ⟨e, by simp, h1.symm, by simp [takesE]; omega, h4⟩
      · exact ⟨e', by simp [h1], h2⟩
    · rintro ⟨e', h1, h2, h3, h4⟩
      rcases List.mem_cons.1 h1 with rfl | h1
      · simp only [takesE, decide_eq_true_eq] at h3
        exact .inl ⟨⟨h2.symm, h3.1, by omega⟩, h4⟩
      · exact .inr ⟨e', h1, h2, h3, h4⟩
theorem tOK_zero (n : Nat) : tOK n (List.replicate n zeroR) := ⟨by simp, fun r hr => by
  rw [List.mem_replicate] at hr
  rw [hr.2]
  exact ⟨by rw [zeroR, List.length_replicate], fun w hw => by rw [zeroR, List.mem_replicate] at hw; omega⟩⟩
theorem setAt_zero (n sign q : Nat) (hs : sign < 95) {p : Nat} (hp : p < 512) : hasW (setAt (List.replicate n zeroR) sign q) p = false := by
  have : setAt (List.replicate n zeroR) sign q = zeroW := by
    unfold setAt
    split
    · rename_i r hr
      have := List.mem_of_getElem? hr
      rw [List.mem_replicate] at this
      rw [this.2]
      have e : (zeroR.drop (8 * sign)).take 8 = List.replicate 8 0 := by
        simp only [zeroR, List.drop_replicate, List.take_replicate]
        congr 1
        omega
      rw [e]; rfl
    · rfl
  rw [this, hasW_zero]
theorem stepsP_spec {N : Net} (h : N.ok) : tOK N.n (stepsP N) ∧ ∀ sign q, sign < 95 → ∀ p < 512, (hasW (setAt (stepsP N) sign q) p = true ↔ ∃ e ∈ N.edges, e.fr = q ∧ takesE e sign = true ∧ hasW (closedS N e.to) p = true) := by
  refine ⟨(step_fold h (sign := 0) (q := 0) (by omega) N.edges _ (fun _ h => h) (tOK_zero N.n)).1, fun sign q hs p hp => ?_⟩
  rw [stepsP, (step_fold h hs N.edges _ (fun _ h => h) (tOK_zero N.n)).2 p hp, setAt_zero _ _ _ hs hp]
  simp
theorem closedS_has {N : Net} (h : N.ok) {q : Nat} (hq : q < N.n) {p : Nat} (hp : p < 512) : hasW (closedS N q) p = true ↔ NReach N.edges q p := by
  rw [closedS, hasW_set (closedL_lt h hq).1 hp, decide_eq_true_eq]
  exact mem_closedL (fun e he => (h.ends e he).2.1) hq
theorem closedS_lt {N : Net} (h : N.ok) {q : Nat} (hq : q < N.n) {p : Nat} (hp : p < 512) (hh : hasW (closedS N q) p = true) : p < N.n :=
  ((closedS_has h hq hp).1 hh).lt (fun e he => (h.ends e he).2.1) hq
/-! ### Borders -/
theorem mark_fold : ∀ (es : List NEdge) (b : List Bool), b.length = 95 → (es.foldl markB b).length = 95 ∧ ∀ c < 95, (es.foldl markB b)[c]? = some false → b[c]? = some false ∧ ∀ e ∈ es, loE e ≤ hiE e → loE e ≠ c + 32 ∧ (hiE e < 126 → hiE e + 1 ≠ c + 32)
  | [], b, hb => ⟨hb, fun c hc h => ⟨h, by simp⟩⟩
  | e :: es, b, hb => by
    have hlo : 32 ≤ loE e := by unfold loE; split <;> omega
    have hhi : hiE e ≤ 126 := by unfold hiE; split <;> omega
    have hm := markB_len b e
    obtain ⟨g1, g2⟩ := mark_fold es (markB b e) (by rw [hm, hb])
    refine ⟨g1, fun c hc h => ?_⟩
    obtain ⟨f1, f2⟩ := g2 c hc h
    have set_false : ∀ (l : List Bool) (i : Nat), i < l.length → (l.set i true)[c]? = some false → i ≠ c ∧ l[c]? = some false := fun l i hi h => by
      by_cases hic : i = c
      · subst hic; rw [List.getElem?_set_self hi] at h; cases h
      · rw [List.getElem?_set_ne hic] at h; exact ⟨hic, h⟩
    have key : b[c]? = some false ∧ (loE e ≤ hiE e → loE e ≠ c + 32 ∧ (hiE e < 126 → hiE e + 1 ≠ c + 32)) := by
      unfold markB at f1
      split at f1
      · exact ⟨f1, fun _ => by omega⟩
      · split at f1
        · obtain ⟨h1, h2⟩ := set_false _ _ (by simp; omega) f1
          obtain ⟨h3, h4⟩ := set_false _ _ (by omega) h2
          exact ⟨h4, fun _ => ⟨by omega, fun _ => by omega⟩⟩
        · obtain ⟨h3, h4⟩ := set_false _ _ (by omega) f1
          exact ⟨h4, fun _ => ⟨by omega, fun _ => by omega⟩⟩
    refine ⟨key.1, fun e' he' => ?_⟩
    rcases List.mem_cons.1 he' with rfl | he'
    · exact key.2
    · exact f2 e' he'
theorem mark_keep : ∀ (es : List NEdge) (b : List Bool), b[0]? = some true → (es.foldl markB b)[0]? = some true
  | [], _, h => h
  | e :: es, b, h => by
    refine mark_keep es _ ?_
    have set_true : ∀ (l : List Bool) (i : Nat), l[0]? = some true → (l.set i true)[0]? = some true := fun l i h => by
      rw [List.getElem?_set]
      have := (List.getElem?_eq_some_iff.1 h).1
      split
      · rename_i h0; subst h0; rw [if_pos this]
      · exact h
    unfold markB
    split
    · exact h
    · split
      · exact set_true _ _ (set_true _ _ h)
      · exact set_true _ _ h
theorem bordersP_spec (N : Net) : (bordersP N).length = 95 ∧ (bordersP N)[0]? = some true ∧ ∀ c < 95, (bordersP N)[c]? = some false → ∀ e ∈ N.edges, loE e ≤ hiE e → loE e ≠ c + 32 ∧ (hiE e < 126 → hiE e + 1 ≠ c + 32) := by
  obtain ⟨h1, h2⟩ := mark_fold N.edges ((List.replicate 95 false).set 0 true) (by simp)
  exact ⟨h1, mark_keep _ _ (by rfl), fun c hc h => (h2 c hc h).2⟩
theorem setAt_same {N : Net} (h : N.ok) {c : Nat} (hc : c + 1 < 95) (hb : (bordersP N)[c + 1]? = some false) (q : Nat) : setAt (stepsP N) (c + 1) q = setAt (stepsP N) c q := by
  obtain ⟨h1, h2⟩ := stepsP_spec h
  refine wOK_ext (setAt_ok h1 (by omega) q) (setAt_ok h1 (by omega) q) fun p hp => ?_
  rw [Bool.eq_iff_iff, h2 (c + 1) q (by omega) p hp, h2 c q (by omega) p hp]
  have key : ∀ e ∈ N.edges, takesE e (c + 1) = takesE e c := fun e he => by
    have hlo : 32 ≤ loE e := by unfold loE; split <;> omega
    have hhi : hiE e ≤ 126 := by unfold hiE; split <;> omega
    simp only [takesE]
    refine decide_eq_decide.2 ?_
    rcases Nat.lt_or_ge (hiE e) (loE e) with hgt | hle
    · omega
    · obtain ⟨g1, g2⟩ := (bordersP_spec N).2.2 (c + 1) hc hb e he hle
      have : hiE e + 1 ≠ c + 1 + 32 := by
        by_cases h126 : hiE e < 126
        · exact g2 h126
        · omega
      omega
  constructor
  · rintro ⟨e, he, h3, h4, h5⟩; exact ⟨e, he, h3, by rw [← key e he]; exact h4, h5⟩
  · rintro ⟨e, he, h3, h4, h5⟩; exact ⟨e, he, h3, by rw [key e he]; exact h4, h5⟩
theorem ofGo8_congr {f g : Nat → List Nat} (h : ∀ q, f q = g q) (i : Nat) (s out : List Nat) : ofGo8 f i s out = ofGo8 g i s out := by
  have : f = g := funext h
  rw [this]
end Go.Abs
